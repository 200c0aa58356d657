/- Functions of the program as Lean functions, each tied to the program by the kernel: catchpolelaw1.BytesetRuns, catchpolelaw1.BytesetList, catchpolelaw1.BytesetKnown, catchpolelaw1.BytesetLaws, catchpolelaw1.BytesetSays, catchpolelaw2.ClassSays -/
import Derived.Test.YtifnlmfhbepjcaaXC
import Derived.Test.YtifnlmfhbepjcaaProg
import Derived.KernelRfl
set_option linter.unusedVariables false
set_option maxRecDepth 100000
namespace Go.Proofs.Ytifnlmfhbepjcaa
open Go Go.X
theorem laidOut : laidOutB Try.prog = true := by kernel_rfl
theorem noNums : noNum Try.prog = true := by kernel_rfl
theorem mixed : Try.prog.follows .mixedOrders = true := by kernel_rfl
noncomputable def ownPars : FuncId → Nat → Bool := fun f i => false

/- catchpole/byteset.Range -/
noncomputable def f22_I : Int × Int → List SV × Obs := fun x => ([.int .u8 x.1, .int .u8 x.2], [])
noncomputable def f22_D : List SV → Obs → Option (Int × Int)
  | [.int .u8 n1, .int .u8 n2], [] => some (n1, n2)
  | _, _ => none
theorem f22_D_ok (args : List SV) (B : Obs) (x : Int × Int) (h : f22_D args B = some x) : f22_I x = (args, B) := by
  unfold f22_D at h
  split at h
  · injection h with h; subst h; rfl
  · cases h
noncomputable def f22_O : PV → Out := (fun y => ([.val 24 y], []))
noncomputable def f22_un : Out → Option (PV)
  | ([.val 24 y0], []) => some y0
  | _ => none
theorem f22_un_ok (o : Out) (y : PV) (h : f22_un o = some y) : o = f22_O y := by
  unfold f22_un at h
  split at h
  · injection h with h; subst h; rfl
  · cases h
noncomputable def f22_msk : Nat → Option (List Nat) := fun key => bif key == 9 then some [1, 4, 5, 6] else none
noncomputable def f22_C : Oracle := orc0
noncomputable def f22_E (k : Nat) : Env := { P := Try.prog, nilOwn := fun d => false, fldOwn := fun d i => false, ownPar := ownPars, ownRet := false, mask := f22_msk, fuel := k, C := f22_C }
noncomputable def f22_code : Code := Try.f22.body.getD .skip
noncomputable def f22_cw1 : Code := subC f22_code [1, 1, 0, 1, 0, 0]
noncomputable def f22_hw1_0 (n2 : Int) (n6 : Int) (p7 : PV) : St := ⟨[.dead, .int .u8 n2, .dead, .dead, .ptr 4 [], .ptr 5 [], .int .i64 n6, .dead, .dead, .dead, .dead, .dead, .dead, .dead, .dead, .dead, .dead, .dead, .dead, .dead, .dead, .dead, .dead, .dead, .dead], [(4, .box 24 (.val 24 (PV.agg [(PV.int 0), (PV.int 0), (PV.int 0), (PV.int 0)]))), (5, .box 24 (.val 24 p7))]⟩
noncomputable def f22_w1A (k : Nat) (retF : PV → R) (n2 : Int) (n6 : Int) (p7 : PV) : R := loopM (f22_E k) f22_cw1 (kont (f22_E k) f22_code [1, 1, 0, 1, 0] (endK (f22_E k) Try.f22 [] f22_un retF)) k (f22_hw1_0 n2 n6 p7)
noncomputable def f22_w1b0 (ret0 : PV → R) (next_w1_0 : Int → PV → R) (n2 : Int) (n6 : Int) (p7 : PV) : R :=
  bif (decide (n6 ≤ (IntKind.wrap .i64 n2))) then
    bif (true && decide ((0 : Int) ≤ (IntKind.wrap .i64 (Int.tdiv n6 64))) && decide ((IntKind.wrap .i64 (Int.tdiv n6 64)) < 4)) then
      bif (decide ((0 : Int) ≤ (Int.tmod n6 64))) then
        let n8 : Int := (intBit .or .u64 (PV.num (PV.fld p7 ((IntKind.wrap .i64 (Int.tdiv n6 64))).toNat)) (IntKind.wrap .u64 ((1 : Int) * 2 ^ (min ((Int.tmod n6 64)).toNat 64))))
        bif (true && decide ((0 : Int) ≤ (IntKind.wrap .i64 (Int.tdiv n6 64))) && decide ((IntKind.wrap .i64 (Int.tdiv n6 64)) < 4)) then
          next_w1_0 (IntKind.wrap .i64 (n6 + (1 : Int))) (PV.agg (List.set (PV.flds p7) ((IntKind.wrap .i64 (Int.tdiv n6 64))).toNat (PV.int n8)))
        else none
      else none
    else none
  else ret0 p7

theorem f22_w1b0_mem (k : Nat) (retF : PV → R) (NX_w1 : St → R) (n2 : Int) (n6 : Int) (p7 : PV) : exec (f22_E k) f22_cw1 (purgeK (f22_E k) f22_cw1 (loopK NX_w1 (kont (f22_E k) f22_code [1, 1, 0, 1, 0] (endK (f22_E k) Try.f22 [] f22_un retF)))) (f22_hw1_0 n2 n6 p7) = f22_w1b0 (fun y0 => retF y0) (fun n6 p7 => NX_w1 (f22_hw1_0 n2 n6 p7)) n2 n6 p7 := by kernel_rfl

noncomputable def f22_w1b0N (k : Nat) (ret0 : PV → R) (next_w1_0 : Int → PV → R) (n2 : Int) (n6 : Int) (p7 : PV) : R :=
  f22_w1b0 ret0 next_w1_0 n2 n6 p7
theorem f22_w1b0_eq (k : Nat) (retF : PV → R) (NX_w1 : St → R) (n2 : Int) (n6 : Int) (p7 : PV) : exec (f22_E k) f22_cw1 (purgeK (f22_E k) f22_cw1 (loopK NX_w1 (kont (f22_E k) f22_code [1, 1, 0, 1, 0] (endK (f22_E k) Try.f22 [] f22_un retF)))) (f22_hw1_0 n2 n6 p7) = f22_w1b0N k (fun y0 => retF y0) (fun n6 p7 => NX_w1 (f22_hw1_0 n2 n6 p7)) n2 n6 p7 :=
  (f22_w1b0_mem k retF NX_w1 n2 n6 p7)

noncomputable def f22_w1B (k : Nat) (ret0 : PV → R) (n2 : Int) (nx : Int × PV → R) : Int × PV → R := (fun s => f22_w1b0N k ret0 (fun n6 p7 => nx (n6, p7)) n2 s.1 s.2)
noncomputable def f22_w1N (k : Nat) (ret0 : PV → R) (n2 : Int) (n6 : Int) (p7 : PV) : R := loopR (f22_w1B k ret0 n2) k (n6, p7)
theorem f22_w1_eq (k : Nat) (retF : PV → R) (n2 : Int) (n6 : Int) (p7 : PV) : f22_w1A k retF n2 n6 p7 = f22_w1N k (fun y0 => retF y0) n2 n6 p7 :=
  Eq.mp (by kernel_rfl) (loop_sim (E := (f22_E k)) (c := f22_cw1) (K := (kont (f22_E k) f22_code [1, 1, 0, 1, 0] (endK (f22_E k) Try.f22 [] f22_un retF))) (S := Int × PV) (fun s => f22_hw1_0 n2 s.1 s.2) (f22_w1B k (fun y0 => retF y0) n2) (fun NX s => by
    exact Eq.mp (by kernel_rfl) (f22_w1b0_eq k retF NX n2 s.1 s.2)) k (n6, p7))

noncomputable def f22_e (ret0 : PV → R) (w1 : Int → PV → R) (n1 : Int) (n2 : Int) : R :=
  w1 (IntKind.wrap .i64 n1) (PV.agg [(PV.int 0), (PV.int 0), (PV.int 0), (PV.int 0)])

theorem f22_e_mem (k : Nat) (retF : PV → R) (n1 : Int) (n2 : Int) : exec (f22_E k) f22_code (endK (f22_E k) Try.f22 [] f22_un retF) ⟨[.int .u8 n1, .int .u8 n2, .undef, .undef, .undef, .undef, .undef, .undef, .undef, .undef, .undef, .undef, .undef, .undef, .undef, .undef, .undef, .undef, .undef, .undef, .undef, .undef, .undef, .undef, .undef], []⟩ = f22_e (fun y0 => retF y0) (fun n6 p7 => f22_w1A k retF n2 n6 p7) n1 n2 := by kernel_rfl

noncomputable def f22_N (k : Nat) (ret0 : PV → R) (n1 : Int) (n2 : Int) : R :=
  f22_e ret0 (fun n6 p7 => f22_w1N k ret0 n2 n6 p7) n1 n2
theorem f22_eq (k : Nat) (retF : PV → R) (n1 : Int) (n2 : Int) : exec (f22_E k) f22_code (endK (f22_E k) Try.f22 [] f22_un retF) ⟨[.int .u8 n1, .int .u8 n2, .undef, .undef, .undef, .undef, .undef, .undef, .undef, .undef, .undef, .undef, .undef, .undef, .undef, .undef, .undef, .undef, .undef, .undef, .undef, .undef, .undef, .undef, .undef], []⟩ = f22_N k (fun y0 => retF y0) n1 n2 :=
  (f22_e_mem k retF n1 n2).trans (by rw [show (fun n6 p7 => f22_w1A k retF n2 n6 p7) = (fun n6 p7 => f22_w1N k (fun y0 => retF y0) n2 n6 p7) from funext fun n6 => funext fun p7 => f22_w1_eq k retF n2 n6 p7]; rfl)

noncomputable def G22 : Nat → Int → Int → (PV → R) → R
  | 0, _, _, _ => none
  | k + 1, n1, n2, ret0 => f22_N k  ret0 n1 n2
theorem S22 : ∀ k, Snd Try.prog 22 f22_I f22_O (fun x ret => G22 k x.1 x.2 (fun y0 => ret y0))
  | 0 => snd_none
  | k + 1 => snd_step (E := f22_E k ) rfl laidOut noNums orc0_ok (f := 22) (fn := Try.f22) (code := f22_code) Try.func22 (by kernel_rfl) (drawsOk_of laidOut orc0_ok mixed (by kernel_rfl)) f22_un f22_un_ok [] (fun _ => rfl)
      (fun x ret => f22_eq k  ret x.1 x.2)

/- (catchpole/byteset.Set).Has -/
noncomputable def f23_I : PV × Int → List SV × Obs := fun x => ([.val 24 x.1, .int .u8 x.2], [])
noncomputable def f23_D : List SV → Obs → Option (PV × Int)
  | [.val 24 p1, .int .u8 n2], [] => some (p1, n2)
  | _, _ => none
theorem f23_D_ok (args : List SV) (B : Obs) (x : PV × Int) (h : f23_D args B = some x) : f23_I x = (args, B) := by
  unfold f23_D at h
  split at h
  · injection h with h; subst h; rfl
  · cases h
noncomputable def f23_O : Bool → Out := (fun y => ([.bool y], []))
noncomputable def f23_un : Out → Option (Bool)
  | ([.bool y0], []) => some y0
  | _ => none
theorem f23_un_ok (o : Out) (y : Bool) (h : f23_un o = some y) : o = f23_O y := by
  unfold f23_un at h
  split at h
  · injection h with h; subst h; rfl
  · cases h
noncomputable def f23_msk : Nat → Option (List Nat) := fun key =>  none
noncomputable def f23_C : Oracle := orc0
noncomputable def f23_E (k : Nat) : Env := { P := Try.prog, nilOwn := fun d => false, fldOwn := fun d i => false, ownPar := ownPars, ownRet := false, mask := f23_msk, fuel := k, C := f23_C }
noncomputable def f23_code : Code := Try.f23.body.getD .skip
noncomputable def f23_e (ret0 : Bool → R) (p1 : PV) (n2 : Int) : R :=
  bif (true && decide ((0 : Int) ≤ (IntKind.wrap .u8 (Int.tdiv n2 64))) && decide ((IntKind.wrap .u8 (Int.tdiv n2 64)) < 4)) then
    bif (decide ((0 : Int) ≤ (Int.tmod n2 64))) then
      let n3 : Int := (Int.fdiv (PV.num (PV.fld p1 ((IntKind.wrap .u8 (Int.tdiv n2 64))).toNat)) (2 ^ (min ((Int.tmod n2 64)).toNat 64)))
      ret0 (decide ((intBit .and .u64 n3 1) = (1 : Int)))
    else none
  else none

theorem f23_e_mem (k : Nat) (retF : Bool → R) (p1 : PV) (n2 : Int) : exec (f23_E k) f23_code (endK (f23_E k) Try.f23 [] f23_un retF) ⟨[.val 24 p1, .int .u8 n2, .undef, .undef, .undef, .undef, .undef, .undef, .undef, .undef, .undef, .undef, .undef, .undef], []⟩ = f23_e (fun y0 => retF y0) p1 n2 := by kernel_rfl

noncomputable def f23_N (k : Nat) (ret0 : Bool → R) (p1 : PV) (n2 : Int) : R :=
  f23_e ret0 p1 n2
theorem f23_eq (k : Nat) (retF : Bool → R) (p1 : PV) (n2 : Int) : exec (f23_E k) f23_code (endK (f23_E k) Try.f23 [] f23_un retF) ⟨[.val 24 p1, .int .u8 n2, .undef, .undef, .undef, .undef, .undef, .undef, .undef, .undef, .undef, .undef, .undef, .undef], []⟩ = f23_N k (fun y0 => retF y0) p1 n2 :=
  (f23_e_mem k retF p1 n2)

noncomputable def G23 : Nat → PV → Int → (Bool → R) → R
  | 0, _, _, _ => none
  | k + 1, p1, n2, ret0 => f23_N k  ret0 p1 n2
theorem S23 : ∀ k, Snd Try.prog 23 f23_I f23_O (fun x ret => G23 k x.1 x.2 (fun y0 => ret y0))
  | 0 => snd_none
  | k + 1 => snd_step (E := f23_E k ) rfl laidOut noNums orc0_ok (f := 23) (fn := Try.f23) (code := f23_code) Try.func23 (by kernel_rfl) (drawsOk_of laidOut orc0_ok mixed (by kernel_rfl)) f23_un f23_un_ok [] (fun _ => rfl)
      (fun x ret => f23_eq k  ret x.1 x.2)

/- (catchpole/byteset.Set).List -/
noncomputable def f17_I : PV → List SV × Obs := fun x => ([.val 24 x], [])
noncomputable def f17_D : List SV → Obs → Option (PV)
  | [.val 24 p1], [] => some p1
  | _, _ => none
theorem f17_D_ok (args : List SV) (B : Obs) (x : PV) (h : f17_D args B = some x) : f17_I x = (args, B) := by
  unfold f17_D at h
  split at h
  · injection h with h; subst h; rfl
  · cases h
noncomputable def f17_O : PV → Out := (fun y => ([.val 32 y], []))
noncomputable def f17_un : Out → Option (PV)
  | ([.val 32 y0], []) => some y0
  | _ => none
theorem f17_un_ok (o : Out) (y : PV) (h : f17_un o = some y) : o = f17_O y := by
  unfold f17_un at h
  split at h
  · injection h with h; subst h; rfl
  · cases h
noncomputable def f17_msk : Nat → Option (List Nat) := fun key => bif key == 9 then some [1, 3, 5] else none
noncomputable def f17_C (c23 : PV → Int → (Bool → R) → R) : Oracle := orc 23 f23_D f23_O (fun x ret => c23 x.1 x.2 (fun y0 => ret y0)) <| orc0
noncomputable def f17_E (k : Nat) (c23 : PV → Int → (Bool → R) → R) : Env := { P := Try.prog, nilOwn := fun d => d == 3, fldOwn := fun d i => false, ownPar := ownPars, ownRet := false, mask := f17_msk, fuel := k, C := f17_C c23 }
noncomputable def f17_code : Code := Try.f17.body.getD .skip
noncomputable def f17_cw1 : Code := subC f17_code [1, 1, 0, 1, 0, 0]
noncomputable def f17_hw1_0 (p1 : PV) (n3 : Int) (l4 : List PV) : St := ⟨[.dead, .ptr 1 [], .dead, .own 32 3, .dead, .int .i64 n3, .dead, .dead, .dead, .dead, .dead, .dead, .dead, .dead, .dead, .dead, .dead, .dead, .dead], [(1, .box 24 (.val 24 p1)), (3, .row 5 l4)]⟩
noncomputable def f17_w1A (k : Nat) (c23 : PV → Int → (Bool → R) → R) (retF : PV → R) (p1 : PV) (n3 : Int) (l4 : List PV) : R := loopM (f17_E k c23) f17_cw1 (kont (f17_E k c23) f17_code [1, 1, 0, 1, 0] (endK (f17_E k c23) Try.f17 [] f17_un retF)) k (f17_hw1_0 p1 n3 l4)
noncomputable def f17_w1b0 (c23 : PV → Int → (Bool → R) → R) (ret0 : PV → R) (next_w1_0 : Int → (List PV) → R) (p1 : PV) (n3 : Int) (l4 : List PV) : R :=
  bif (decide (n3 < (256 : Int))) then
    c23 p1 (IntKind.wrap .u8 n3) fun b5 =>
    bif b5 then
      bif (true && roomy (List.length l4 + List.length [(PV.int (IntKind.wrap .u8 n3))]) 1) then
        next_w1_0 (IntKind.wrap .i64 (n3 + (1 : Int))) (l4 ++ [(PV.int (IntKind.wrap .u8 n3))])
      else none
    else next_w1_0 (IntKind.wrap .i64 (n3 + (1 : Int))) l4
  else ret0 (PV.list l4)

theorem f17_w1b0_mem (k : Nat) (c23 : PV → Int → (Bool → R) → R) (retF : PV → R) (NX_w1 : St → R) (p1 : PV) (n3 : Int) (l4 : List PV) : exec (f17_E k c23) f17_cw1 (purgeK (f17_E k c23) f17_cw1 (loopK NX_w1 (kont (f17_E k c23) f17_code [1, 1, 0, 1, 0] (endK (f17_E k c23) Try.f17 [] f17_un retF)))) (f17_hw1_0 p1 n3 l4) = f17_w1b0 c23 (fun y0 => retF y0) (fun n3 l4 => NX_w1 (f17_hw1_0 p1 n3 l4)) p1 n3 l4 := by kernel_rfl

noncomputable def f17_w1b0N (k : Nat) (c23 : PV → Int → (Bool → R) → R) (ret0 : PV → R) (next_w1_0 : Int → (List PV) → R) (p1 : PV) (n3 : Int) (l4 : List PV) : R :=
  f17_w1b0 c23 ret0 next_w1_0 p1 n3 l4
theorem f17_w1b0_eq (k : Nat) (c23 : PV → Int → (Bool → R) → R) (retF : PV → R) (NX_w1 : St → R) (p1 : PV) (n3 : Int) (l4 : List PV) : exec (f17_E k c23) f17_cw1 (purgeK (f17_E k c23) f17_cw1 (loopK NX_w1 (kont (f17_E k c23) f17_code [1, 1, 0, 1, 0] (endK (f17_E k c23) Try.f17 [] f17_un retF)))) (f17_hw1_0 p1 n3 l4) = f17_w1b0N k c23 (fun y0 => retF y0) (fun n3 l4 => NX_w1 (f17_hw1_0 p1 n3 l4)) p1 n3 l4 :=
  (f17_w1b0_mem k c23 retF NX_w1 p1 n3 l4)

noncomputable def f17_w1B (k : Nat) (c23 : PV → Int → (Bool → R) → R) (ret0 : PV → R) (p1 : PV) (nx : Int × (List PV) → R) : Int × (List PV) → R := (fun s => f17_w1b0N k c23 ret0 (fun n3 l4 => nx (n3, l4)) p1 s.1 s.2)
noncomputable def f17_w1N (k : Nat) (c23 : PV → Int → (Bool → R) → R) (ret0 : PV → R) (p1 : PV) (n3 : Int) (l4 : List PV) : R := loopR (f17_w1B k c23 ret0 p1) k (n3, l4)
theorem f17_w1_eq (k : Nat) (c23 : PV → Int → (Bool → R) → R) (retF : PV → R) (p1 : PV) (n3 : Int) (l4 : List PV) : f17_w1A k c23 retF p1 n3 l4 = f17_w1N k c23 (fun y0 => retF y0) p1 n3 l4 :=
  Eq.mp (by kernel_rfl) (loop_sim (E := (f17_E k c23)) (c := f17_cw1) (K := (kont (f17_E k c23) f17_code [1, 1, 0, 1, 0] (endK (f17_E k c23) Try.f17 [] f17_un retF))) (S := Int × (List PV)) (fun s => f17_hw1_0 p1 s.1 s.2) (f17_w1B k c23 (fun y0 => retF y0) p1) (fun NX s => by
    exact Eq.mp (by kernel_rfl) (f17_w1b0_eq k c23 retF NX p1 s.1 s.2)) k (n3, l4))

noncomputable def f17_e (c23 : PV → Int → (Bool → R) → R) (ret0 : PV → R) (w1 : Int → (List PV) → R) (p1 : PV) : R :=
  w1 0 []

theorem f17_e_mem (k : Nat) (c23 : PV → Int → (Bool → R) → R) (retF : PV → R) (p1 : PV) : exec (f17_E k c23) f17_code (endK (f17_E k c23) Try.f17 [] f17_un retF) ⟨[.val 24 p1, .undef, .undef, .undef, .undef, .undef, .undef, .undef, .undef, .undef, .undef, .undef, .undef, .undef, .undef, .undef, .undef, .undef, .undef], []⟩ = f17_e c23 (fun y0 => retF y0) (fun n3 l4 => f17_w1A k c23 retF p1 n3 l4) p1 := by kernel_rfl

noncomputable def f17_N (k : Nat) (c23 : PV → Int → (Bool → R) → R) (ret0 : PV → R) (p1 : PV) : R :=
  f17_e c23 ret0 (fun n3 l4 => f17_w1N k c23 ret0 p1 n3 l4) p1
theorem f17_eq (k : Nat) (c23 : PV → Int → (Bool → R) → R) (retF : PV → R) (p1 : PV) : exec (f17_E k c23) f17_code (endK (f17_E k c23) Try.f17 [] f17_un retF) ⟨[.val 24 p1, .undef, .undef, .undef, .undef, .undef, .undef, .undef, .undef, .undef, .undef, .undef, .undef, .undef, .undef, .undef, .undef, .undef, .undef], []⟩ = f17_N k c23 (fun y0 => retF y0) p1 :=
  (f17_e_mem k c23 retF p1).trans (by rw [show (fun n3 l4 => f17_w1A k c23 retF p1 n3 l4) = (fun n3 l4 => f17_w1N k c23 (fun y0 => retF y0) p1 n3 l4) from funext fun n3 => funext fun l4 => f17_w1_eq k c23 retF p1 n3 l4]; rfl)

noncomputable def G17 : Nat → PV → (PV → R) → R
  | 0, _, _ => none
  | k + 1, p1, ret0 => f17_N k (G23 k) ret0 p1
theorem S17 : ∀ k, Snd Try.prog 17 f17_I f17_O (fun x ret => G17 k x (fun y0 => ret y0))
  | 0 => snd_none
  | k + 1 => snd_step (E := f17_E k (G23 k)) rfl laidOut noNums (orc_ok (S23 k).o f23_D_ok orc0_ok) (f := 17) (fn := Try.f17) (code := f17_code) Try.func17 (by kernel_rfl) (drawsOk_of laidOut (orc_ok (S23 k).o f23_D_ok orc0_ok) mixed (by kernel_rfl)) f17_un f17_un_ok [] (fun _ => rfl)
      (fun x ret => f17_eq k (G23 k) ret x)

/- (catchpole/byteset.Set).Runs -/
noncomputable def f15_I : PV → List SV × Obs := fun x => ([.val 24 x], [])
noncomputable def f15_D : List SV → Obs → Option (PV)
  | [.val 24 p1], [] => some p1
  | _, _ => none
theorem f15_D_ok (args : List SV) (B : Obs) (x : PV) (h : f15_D args B = some x) : f15_I x = (args, B) := by
  unfold f15_D at h
  split at h
  · injection h with h; subst h; rfl
  · cases h
noncomputable def f15_O : PV → Out := (fun y => ([.val 26 y], []))
noncomputable def f15_un : Out → Option (PV)
  | ([.val 26 y0], []) => some y0
  | _ => none
theorem f15_un_ok (o : Out) (y : PV) (h : f15_un o = some y) : o = f15_O y := by
  unfold f15_un at h
  split at h
  · injection h with h; subst h; rfl
  · cases h
noncomputable def f15_msk : Nat → Option (List Nat) := fun key => bif key == 9 then some [3, 8, 9, 10] else none
noncomputable def f15_C (c17 : PV → (PV → R) → R) : Oracle := orc 17 f17_D f17_O (fun x ret => c17 x (fun y0 => ret y0)) <| orc0
noncomputable def f15_E (k : Nat) (c17 : PV → (PV → R) → R) : Env := { P := Try.prog, nilOwn := fun d => d == 3, fldOwn := fun d i => false, ownPar := ownPars, ownRet := false, mask := f15_msk, fuel := k, C := f15_C c17 }
noncomputable def f15_code : Code := Try.f15.body.getD .skip
noncomputable def f15_cw1 : Code := subC f15_code [1, 1, 0, 1, 0, 0]
noncomputable def f15_hw1_0 (p2 : PV) (n3 : Int) (l4 : List PV) : St := ⟨[.dead, .dead, .dead, .own 26 3, .dead, .dead, .dead, .dead, .val 32 p2, .int .i64 (List.length (PV.els p2) : Int), .int .i64 n3, .dead, .dead, .dead, .dead, .dead, .dead, .dead, .dead, .dead, .dead, .dead, .dead, .dead, .dead, .dead, .dead, .dead, .dead, .dead, .dead, .dead, .dead, .dead, .dead, .dead, .dead, .dead, .dead, .dead, .dead, .dead, .dead, .dead, .dead], [(3, .row 29 l4)]⟩
noncomputable def f15_w1A (k : Nat) (c17 : PV → (PV → R) → R) (retF : PV → R) (p2 : PV) (n3 : Int) (l4 : List PV) : R := loopM (f15_E k c17) f15_cw1 (kont (f15_E k c17) f15_code [1, 1, 0, 1, 0] (endK (f15_E k c17) Try.f15 [] f15_un retF)) k (f15_hw1_0 p2 n3 l4)
noncomputable def f15_w1b0 (c17 : PV → (PV → R) → R) (ret0 : PV → R) (next_w1_0 : Int → (List PV) → R) (p2 : PV) (n3 : Int) (l4 : List PV) : R :=
  bif (decide (n3 < (List.length (PV.els p2) : Int))) then
    bif (true && decide ((0 : Int) ≤ n3) && decide (n3 < (List.length (PV.els p2) : Int))) then
      bif ((decide ((0 : Int) < (List.length l4 : Int))) == true) then
        bif (true && true && decide ((0 : Int) ≤ (IntKind.wrap .i64 ((List.length l4 : Int) - (1 : Int)))) && decide ((IntKind.wrap .i64 ((List.length l4 : Int) - (1 : Int))) < (List.length l4 : Int))) then
          let n5 : Int := (PV.num (PV.fld (List.getD l4 ((IntKind.wrap .i64 ((List.length l4 : Int) - (1 : Int)))).toNat PV.nil) 1))
          let b6 : Bool := (decide ((IntKind.wrap .i64 ((IntKind.wrap .i64 n5) + (1 : Int))) = (IntKind.wrap .i64 (PV.num (List.getD (PV.els p2) (n3).toNat PV.nil)))))
          bif b6 then
            bif (true && true && decide ((0 : Int) ≤ (IntKind.wrap .i64 ((List.length l4 : Int) - (1 : Int)))) && decide ((IntKind.wrap .i64 ((List.length l4 : Int) - (1 : Int))) < (List.length l4 : Int))) then
              let l7 : List PV := (List.set l4 ((IntKind.wrap .i64 ((List.length l4 : Int) - (1 : Int)))).toNat (PV.agg (List.set (PV.flds (List.getD l4 ((IntKind.wrap .i64 ((List.length l4 : Int) - (1 : Int)))).toNat PV.nil)) 1 (PV.int (PV.num (List.getD (PV.els p2) (n3).toNat PV.nil))))))
              next_w1_0 (IntKind.wrap .i64 (n3 + (1 : Int))) l7
            else none
          else bif (true && roomy (List.length l4 + List.length [(PV.agg [(PV.int (PV.num (List.getD (PV.els p2) (n3).toNat PV.nil))), (PV.int (PV.num (List.getD (PV.els p2) (n3).toNat PV.nil)))])]) 2) then
            next_w1_0 (IntKind.wrap .i64 (n3 + (1 : Int))) (l4 ++ [(PV.agg [(PV.int (PV.num (List.getD (PV.els p2) (n3).toNat PV.nil))), (PV.int (PV.num (List.getD (PV.els p2) (n3).toNat PV.nil)))])])
          else none
        else none
      else bif (true && roomy (List.length l4 + List.length [(PV.agg [(PV.int (PV.num (List.getD (PV.els p2) (n3).toNat PV.nil))), (PV.int (PV.num (List.getD (PV.els p2) (n3).toNat PV.nil)))])]) 2) then
        next_w1_0 (IntKind.wrap .i64 (n3 + (1 : Int))) (l4 ++ [(PV.agg [(PV.int (PV.num (List.getD (PV.els p2) (n3).toNat PV.nil))), (PV.int (PV.num (List.getD (PV.els p2) (n3).toNat PV.nil)))])])
      else none
    else none
  else ret0 (PV.list l4)

theorem f15_w1b0_mem (k : Nat) (c17 : PV → (PV → R) → R) (retF : PV → R) (NX_w1 : St → R) (p2 : PV) (n3 : Int) (l4 : List PV) : exec (f15_E k c17) f15_cw1 (purgeK (f15_E k c17) f15_cw1 (loopK NX_w1 (kont (f15_E k c17) f15_code [1, 1, 0, 1, 0] (endK (f15_E k c17) Try.f15 [] f15_un retF)))) (f15_hw1_0 p2 n3 l4) = f15_w1b0 c17 (fun y0 => retF y0) (fun n3 l4 => NX_w1 (f15_hw1_0 p2 n3 l4)) p2 n3 l4 := by kernel_rfl

noncomputable def f15_w1b0N (k : Nat) (c17 : PV → (PV → R) → R) (ret0 : PV → R) (next_w1_0 : Int → (List PV) → R) (p2 : PV) (n3 : Int) (l4 : List PV) : R :=
  f15_w1b0 c17 ret0 next_w1_0 p2 n3 l4
theorem f15_w1b0_eq (k : Nat) (c17 : PV → (PV → R) → R) (retF : PV → R) (NX_w1 : St → R) (p2 : PV) (n3 : Int) (l4 : List PV) : exec (f15_E k c17) f15_cw1 (purgeK (f15_E k c17) f15_cw1 (loopK NX_w1 (kont (f15_E k c17) f15_code [1, 1, 0, 1, 0] (endK (f15_E k c17) Try.f15 [] f15_un retF)))) (f15_hw1_0 p2 n3 l4) = f15_w1b0N k c17 (fun y0 => retF y0) (fun n3 l4 => NX_w1 (f15_hw1_0 p2 n3 l4)) p2 n3 l4 :=
  (f15_w1b0_mem k c17 retF NX_w1 p2 n3 l4)

noncomputable def f15_w1B (k : Nat) (c17 : PV → (PV → R) → R) (ret0 : PV → R) (p2 : PV) (nx : Int × (List PV) → R) : Int × (List PV) → R := (fun s => f15_w1b0N k c17 ret0 (fun n3 l4 => nx (n3, l4)) p2 s.1 s.2)
noncomputable def f15_w1N (k : Nat) (c17 : PV → (PV → R) → R) (ret0 : PV → R) (p2 : PV) (n3 : Int) (l4 : List PV) : R := loopR (f15_w1B k c17 ret0 p2) k (n3, l4)
theorem f15_w1_eq (k : Nat) (c17 : PV → (PV → R) → R) (retF : PV → R) (p2 : PV) (n3 : Int) (l4 : List PV) : f15_w1A k c17 retF p2 n3 l4 = f15_w1N k c17 (fun y0 => retF y0) p2 n3 l4 :=
  Eq.mp (by kernel_rfl) (loop_sim (E := (f15_E k c17)) (c := f15_cw1) (K := (kont (f15_E k c17) f15_code [1, 1, 0, 1, 0] (endK (f15_E k c17) Try.f15 [] f15_un retF))) (S := Int × (List PV)) (fun s => f15_hw1_0 p2 s.1 s.2) (f15_w1B k c17 (fun y0 => retF y0) p2) (fun NX s => by
    exact Eq.mp (by kernel_rfl) (f15_w1b0_eq k c17 retF NX p2 s.1 s.2)) k (n3, l4))

noncomputable def f15_e (c17 : PV → (PV → R) → R) (ret0 : PV → R) (w1 : PV → Int → (List PV) → R) (p1 : PV) : R :=
  c17 p1 fun p2 =>
  w1 p2 0 []

theorem f15_e_mem (k : Nat) (c17 : PV → (PV → R) → R) (retF : PV → R) (p1 : PV) : exec (f15_E k c17) f15_code (endK (f15_E k c17) Try.f15 [] f15_un retF) ⟨[.val 24 p1, .undef, .undef, .undef, .undef, .undef, .undef, .undef, .undef, .undef, .undef, .undef, .undef, .undef, .undef, .undef, .undef, .undef, .undef, .undef, .undef, .undef, .undef, .undef, .undef, .undef, .undef, .undef, .undef, .undef, .undef, .undef, .undef, .undef, .undef, .undef, .undef, .undef, .undef, .undef, .undef, .undef, .undef, .undef, .undef], []⟩ = f15_e c17 (fun y0 => retF y0) (fun p2 n3 l4 => f15_w1A k c17 retF p2 n3 l4) p1 := by kernel_rfl

noncomputable def f15_N (k : Nat) (c17 : PV → (PV → R) → R) (ret0 : PV → R) (p1 : PV) : R :=
  f15_e c17 ret0 (fun p2 n3 l4 => f15_w1N k c17 ret0 p2 n3 l4) p1
theorem f15_eq (k : Nat) (c17 : PV → (PV → R) → R) (retF : PV → R) (p1 : PV) : exec (f15_E k c17) f15_code (endK (f15_E k c17) Try.f15 [] f15_un retF) ⟨[.val 24 p1, .undef, .undef, .undef, .undef, .undef, .undef, .undef, .undef, .undef, .undef, .undef, .undef, .undef, .undef, .undef, .undef, .undef, .undef, .undef, .undef, .undef, .undef, .undef, .undef, .undef, .undef, .undef, .undef, .undef, .undef, .undef, .undef, .undef, .undef, .undef, .undef, .undef, .undef, .undef, .undef, .undef, .undef, .undef, .undef], []⟩ = f15_N k c17 (fun y0 => retF y0) p1 :=
  (f15_e_mem k c17 retF p1).trans (by rw [show (fun p2 n3 l4 => f15_w1A k c17 retF p2 n3 l4) = (fun p2 n3 l4 => f15_w1N k c17 (fun y0 => retF y0) p2 n3 l4) from funext fun p2 => funext fun n3 => funext fun l4 => f15_w1_eq k c17 retF p2 n3 l4]; rfl)

noncomputable def G15 : Nat → PV → (PV → R) → R
  | 0, _, _ => none
  | k + 1, p1, ret0 => f15_N k (G17 k) ret0 p1
theorem S15 : ∀ k, Snd Try.prog 15 f15_I f15_O (fun x ret => G15 k x (fun y0 => ret y0))
  | 0 => snd_none
  | k + 1 => snd_step (E := f15_E k (G17 k)) rfl laidOut noNums (orc_ok (S17 k).o f17_D_ok orc0_ok) (f := 15) (fn := Try.f15) (code := f15_code) Try.func15 (by kernel_rfl) (drawsOk_of laidOut (orc_ok (S17 k).o f17_D_ok orc0_ok) mixed (by kernel_rfl)) f15_un f15_un_ok [] (fun _ => rfl)
      (fun x ret => f15_eq k (G17 k) ret x)

/- math/bits.OnesCount64 -/
noncomputable def f63_I : Int → List SV × Obs := fun x => ([.int .u64 x], [])
noncomputable def f63_D : List SV → Obs → Option (Int)
  | [.int .u64 n1], [] => some n1
  | _, _ => none
theorem f63_D_ok (args : List SV) (B : Obs) (x : Int) (h : f63_D args B = some x) : f63_I x = (args, B) := by
  unfold f63_D at h
  split at h
  · injection h with h; subst h; rfl
  · cases h
noncomputable def f63_O : Int → Out := (fun y => ([.int .i64 y], []))
noncomputable def f63_un : Out → Option (Int)
  | ([.int .i64 y0], []) => some y0
  | _ => none
theorem f63_un_ok (o : Out) (y : Int) (h : f63_un o = some y) : o = f63_O y := by
  unfold f63_un at h
  split at h
  · injection h with h; subst h; rfl
  · cases h
noncomputable def f63_msk : Nat → Option (List Nat) := fun key =>  none
noncomputable def f63_C : Oracle := orc0
noncomputable def f63_E (k : Nat) : Env := { P := Try.prog, nilOwn := fun d => false, fldOwn := fun d i => false, ownPar := ownPars, ownRet := false, mask := f63_msk, fuel := k, C := f63_C }
noncomputable def f63_code : Code := Try.f63.body.getD .skip
noncomputable def f63_e (ret0 : Int → R) (n1 : Int) : R :=
  let n2 : Int := (IntKind.wrap .u64 ((intBit .and .u64 (Int.fdiv n1 (2 ^ (min ((1 : Int)).toNat 64))) 6148914691236517205) + (intBit .and .u64 n1 6148914691236517205)))
  let n3 : Int := (IntKind.wrap .u64 ((intBit .and .u64 (Int.fdiv n2 (2 ^ (min ((2 : Int)).toNat 64))) 3689348814741910323) + (intBit .and .u64 n2 3689348814741910323)))
  let n4 : Int := (intBit .and .u64 (IntKind.wrap .u64 ((Int.fdiv n3 (2 ^ (min ((4 : Int)).toNat 64))) + n3)) 1085102592571150095)
  let n5 : Int := (Int.fdiv (IntKind.wrap .u64 (n4 + (Int.fdiv n4 (2 ^ (min ((8 : Int)).toNat 64))))) (2 ^ (min ((16 : Int)).toNat 64)))
  let n6 : Int := (Int.fdiv (IntKind.wrap .u64 ((IntKind.wrap .u64 (n4 + (Int.fdiv n4 (2 ^ (min ((8 : Int)).toNat 64))))) + n5)) (2 ^ (min ((32 : Int)).toNat 64)))
  let n7 : Int := (IntKind.wrap .u64 ((IntKind.wrap .u64 ((IntKind.wrap .u64 (n4 + (Int.fdiv n4 (2 ^ (min ((8 : Int)).toNat 64))))) + n5)) + n6))
  ret0 (intBit .and .i64 (IntKind.wrap .i64 n7) 127)

theorem f63_e_mem (k : Nat) (retF : Int → R) (n1 : Int) : exec (f63_E k) f63_code (endK (f63_E k) Try.f63 [] f63_un retF) ⟨[.int .u64 n1, .undef, .undef, .undef, .undef, .undef, .undef, .undef, .undef, .undef, .undef, .undef, .undef, .undef, .undef, .undef, .undef, .undef, .undef, .undef, .undef, .undef, .undef, .undef, .undef, .undef, .undef, .undef, .undef, .undef, .undef, .undef, .undef, .undef, .undef], []⟩ = f63_e (fun y0 => retF y0) n1 := by kernel_rfl

noncomputable def f63_N (k : Nat) (ret0 : Int → R) (n1 : Int) : R :=
  f63_e ret0 n1
theorem f63_eq (k : Nat) (retF : Int → R) (n1 : Int) : exec (f63_E k) f63_code (endK (f63_E k) Try.f63 [] f63_un retF) ⟨[.int .u64 n1, .undef, .undef, .undef, .undef, .undef, .undef, .undef, .undef, .undef, .undef, .undef, .undef, .undef, .undef, .undef, .undef, .undef, .undef, .undef, .undef, .undef, .undef, .undef, .undef, .undef, .undef, .undef, .undef, .undef, .undef, .undef, .undef, .undef, .undef], []⟩ = f63_N k (fun y0 => retF y0) n1 :=
  (f63_e_mem k retF n1)

noncomputable def G63 : Nat → Int → (Int → R) → R
  | 0, _, _ => none
  | k + 1, n1, ret0 => f63_N k  ret0 n1
theorem S63 : ∀ k, Snd Try.prog 63 f63_I f63_O (fun x ret => G63 k x (fun y0 => ret y0))
  | 0 => snd_none
  | k + 1 => snd_step (E := f63_E k ) rfl laidOut noNums orc0_ok (f := 63) (fn := Try.f63) (code := f63_code) Try.func63 (by kernel_rfl) (drawsOk_of laidOut orc0_ok mixed (by kernel_rfl)) f63_un f63_un_ok [] (fun _ => rfl)
      (fun x ret => f63_eq k  ret x)

/- (catchpole/byteset.Set).Len -/
noncomputable def f16_I : PV → List SV × Obs := fun x => ([.val 24 x], [])
noncomputable def f16_D : List SV → Obs → Option (PV)
  | [.val 24 p1], [] => some p1
  | _, _ => none
theorem f16_D_ok (args : List SV) (B : Obs) (x : PV) (h : f16_D args B = some x) : f16_I x = (args, B) := by
  unfold f16_D at h
  split at h
  · injection h with h; subst h; rfl
  · cases h
noncomputable def f16_O : Int → Out := (fun y => ([.int .i64 y], []))
noncomputable def f16_un : Out → Option (Int)
  | ([.int .i64 y0], []) => some y0
  | _ => none
theorem f16_un_ok (o : Out) (y : Int) (h : f16_un o = some y) : o = f16_O y := by
  unfold f16_un at h
  split at h
  · injection h with h; subst h; rfl
  · cases h
noncomputable def f16_msk : Nat → Option (List Nat) := fun key => bif key == 9 then some [3, 6, 7] else none
noncomputable def f16_C (c63 : Int → (Int → R) → R) : Oracle := orc 63 f63_D f63_O (fun x ret => c63 x (fun y0 => ret y0)) <| orc0
noncomputable def f16_E (k : Nat) (c63 : Int → (Int → R) → R) : Env := { P := Try.prog, nilOwn := fun d => false, fldOwn := fun d i => false, ownPar := ownPars, ownRet := false, mask := f16_msk, fuel := k, C := f16_C c63 }
noncomputable def f16_code : Code := Try.f16.body.getD .skip
noncomputable def f16_cw1 : Code := subC f16_code [1, 1, 0, 1, 0, 0]
noncomputable def f16_hw1_0 (p1 : PV) (n3 : Int) (n4 : Int) : St := ⟨[.dead, .dead, .dead, .int .i64 n3, .dead, .dead, .val 24 p1, .int .i64 n4, .dead, .dead, .dead, .dead, .dead, .dead, .dead, .dead], []⟩
noncomputable def f16_w1A (k : Nat) (c63 : Int → (Int → R) → R) (retF : Int → R) (p1 : PV) (n3 : Int) (n4 : Int) : R := loopM (f16_E k c63) f16_cw1 (kont (f16_E k c63) f16_code [1, 1, 0, 1, 0] (endK (f16_E k c63) Try.f16 [] f16_un retF)) k (f16_hw1_0 p1 n3 n4)
noncomputable def f16_w1b0 (c63 : Int → (Int → R) → R) (ret0 : Int → R) (next_w1_0 : Int → Int → R) (p1 : PV) (n3 : Int) (n4 : Int) : R :=
  bif (decide (n4 < (4 : Int))) then
    bif (true && decide ((0 : Int) ≤ n4) && decide (n4 < 4)) then
      c63 (PV.num (PV.fld p1 (n4).toNat)) fun n5 =>
      next_w1_0 (IntKind.wrap .i64 (n3 + n5)) (IntKind.wrap .i64 (n4 + (1 : Int)))
    else none
  else ret0 n3

theorem f16_w1b0_mem (k : Nat) (c63 : Int → (Int → R) → R) (retF : Int → R) (NX_w1 : St → R) (p1 : PV) (n3 : Int) (n4 : Int) : exec (f16_E k c63) f16_cw1 (purgeK (f16_E k c63) f16_cw1 (loopK NX_w1 (kont (f16_E k c63) f16_code [1, 1, 0, 1, 0] (endK (f16_E k c63) Try.f16 [] f16_un retF)))) (f16_hw1_0 p1 n3 n4) = f16_w1b0 c63 (fun y0 => retF y0) (fun n3 n4 => NX_w1 (f16_hw1_0 p1 n3 n4)) p1 n3 n4 := by kernel_rfl

noncomputable def f16_w1b0N (k : Nat) (c63 : Int → (Int → R) → R) (ret0 : Int → R) (next_w1_0 : Int → Int → R) (p1 : PV) (n3 : Int) (n4 : Int) : R :=
  f16_w1b0 c63 ret0 next_w1_0 p1 n3 n4
theorem f16_w1b0_eq (k : Nat) (c63 : Int → (Int → R) → R) (retF : Int → R) (NX_w1 : St → R) (p1 : PV) (n3 : Int) (n4 : Int) : exec (f16_E k c63) f16_cw1 (purgeK (f16_E k c63) f16_cw1 (loopK NX_w1 (kont (f16_E k c63) f16_code [1, 1, 0, 1, 0] (endK (f16_E k c63) Try.f16 [] f16_un retF)))) (f16_hw1_0 p1 n3 n4) = f16_w1b0N k c63 (fun y0 => retF y0) (fun n3 n4 => NX_w1 (f16_hw1_0 p1 n3 n4)) p1 n3 n4 :=
  (f16_w1b0_mem k c63 retF NX_w1 p1 n3 n4)

noncomputable def f16_w1B (k : Nat) (c63 : Int → (Int → R) → R) (ret0 : Int → R) (p1 : PV) (nx : Int × Int → R) : Int × Int → R := (fun s => f16_w1b0N k c63 ret0 (fun n3 n4 => nx (n3, n4)) p1 s.1 s.2)
noncomputable def f16_w1N (k : Nat) (c63 : Int → (Int → R) → R) (ret0 : Int → R) (p1 : PV) (n3 : Int) (n4 : Int) : R := loopR (f16_w1B k c63 ret0 p1) k (n3, n4)
theorem f16_w1_eq (k : Nat) (c63 : Int → (Int → R) → R) (retF : Int → R) (p1 : PV) (n3 : Int) (n4 : Int) : f16_w1A k c63 retF p1 n3 n4 = f16_w1N k c63 (fun y0 => retF y0) p1 n3 n4 :=
  Eq.mp (by kernel_rfl) (loop_sim (E := (f16_E k c63)) (c := f16_cw1) (K := (kont (f16_E k c63) f16_code [1, 1, 0, 1, 0] (endK (f16_E k c63) Try.f16 [] f16_un retF))) (S := Int × Int) (fun s => f16_hw1_0 p1 s.1 s.2) (f16_w1B k c63 (fun y0 => retF y0) p1) (fun NX s => by
    exact Eq.mp (by kernel_rfl) (f16_w1b0_eq k c63 retF NX p1 s.1 s.2)) k (n3, n4))

noncomputable def f16_e (c63 : Int → (Int → R) → R) (ret0 : Int → R) (w1 : Int → Int → R) (p1 : PV) : R :=
  w1 0 0

theorem f16_e_mem (k : Nat) (c63 : Int → (Int → R) → R) (retF : Int → R) (p1 : PV) : exec (f16_E k c63) f16_code (endK (f16_E k c63) Try.f16 [] f16_un retF) ⟨[.val 24 p1, .undef, .undef, .undef, .undef, .undef, .undef, .undef, .undef, .undef, .undef, .undef, .undef, .undef, .undef, .undef], []⟩ = f16_e c63 (fun y0 => retF y0) (fun n3 n4 => f16_w1A k c63 retF p1 n3 n4) p1 := by kernel_rfl

noncomputable def f16_N (k : Nat) (c63 : Int → (Int → R) → R) (ret0 : Int → R) (p1 : PV) : R :=
  f16_e c63 ret0 (fun n3 n4 => f16_w1N k c63 ret0 p1 n3 n4) p1
theorem f16_eq (k : Nat) (c63 : Int → (Int → R) → R) (retF : Int → R) (p1 : PV) : exec (f16_E k c63) f16_code (endK (f16_E k c63) Try.f16 [] f16_un retF) ⟨[.val 24 p1, .undef, .undef, .undef, .undef, .undef, .undef, .undef, .undef, .undef, .undef, .undef, .undef, .undef, .undef, .undef], []⟩ = f16_N k c63 (fun y0 => retF y0) p1 :=
  (f16_e_mem k c63 retF p1).trans (by rw [show (fun n3 n4 => f16_w1A k c63 retF p1 n3 n4) = (fun n3 n4 => f16_w1N k c63 (fun y0 => retF y0) p1 n3 n4) from funext fun n3 => funext fun n4 => f16_w1_eq k c63 retF p1 n3 n4]; rfl)

noncomputable def G16 : Nat → PV → (Int → R) → R
  | 0, _, _ => none
  | k + 1, p1, ret0 => f16_N k (G63 k) ret0 p1
theorem S16 : ∀ k, Snd Try.prog 16 f16_I f16_O (fun x ret => G16 k x (fun y0 => ret y0))
  | 0 => snd_none
  | k + 1 => snd_step (E := f16_E k (G63 k)) rfl laidOut noNums (orc_ok (S63 k).o f63_D_ok orc0_ok) (f := 16) (fn := Try.f16) (code := f16_code) Try.func16 (by kernel_rfl) (drawsOk_of laidOut (orc_ok (S63 k).o f63_D_ok orc0_ok) mixed (by kernel_rfl)) f16_un f16_un_ok [] (fun _ => rfl)
      (fun x ret => f16_eq k (G63 k) ret x)

/- catchpole/catchpolelaw1.awake -/
noncomputable def f14_I : Unit → List SV × Obs := fun x => ([], [])
noncomputable def f14_D : List SV → Obs → Option (Unit)
  | [], [] => some ()
  | _, _ => none
theorem f14_D_ok (args : List SV) (B : Obs) (x : Unit) (h : f14_D args B = some x) : f14_I x = (args, B) := by
  unfold f14_D at h
  split at h
  · injection h with h; subst h; rfl
  · cases h
noncomputable def f14_O : Bool → Out := (fun y => ([.bool y], []))
noncomputable def f14_un : Out → Option (Bool)
  | ([.bool y0], []) => some y0
  | _ => none
theorem f14_un_ok (o : Out) (y : Bool) (h : f14_un o = some y) : o = f14_O y := by
  unfold f14_un at h
  split at h
  · injection h with h; subst h; rfl
  · cases h
noncomputable def f14_msk : Nat → Option (List Nat) := fun key =>  none
noncomputable def f14_C (c15 : PV → (PV → R) → R) (c16 : PV → (Int → R) → R) (c22 : Int → Int → (PV → R) → R) (c23 : PV → Int → (Bool → R) → R) : Oracle := orc 15 f15_D f15_O (fun x ret => c15 x (fun y0 => ret y0)) <| orc 16 f16_D f16_O (fun x ret => c16 x (fun y0 => ret y0)) <| orc 22 f22_D f22_O (fun x ret => c22 x.1 x.2 (fun y0 => ret y0)) <| orc 23 f23_D f23_O (fun x ret => c23 x.1 x.2 (fun y0 => ret y0)) <| orc0
noncomputable def f14_E (k : Nat) (c15 : PV → (PV → R) → R) (c16 : PV → (Int → R) → R) (c22 : Int → Int → (PV → R) → R) (c23 : PV → Int → (Bool → R) → R) : Env := { P := Try.prog, nilOwn := fun d => false, fldOwn := fun d i => false, ownPar := ownPars, ownRet := false, mask := f14_msk, fuel := k, C := f14_C c15 c16 c22 c23 }
noncomputable def f14_code : Code := Try.f14.body.getD .skip
noncomputable def f14_e (c15 : PV → (PV → R) → R) (c16 : PV → (Int → R) → R) (c22 : Int → Int → (PV → R) → R) (c23 : PV → Int → (Bool → R) → R) (ret0 : Bool → R) : R :=
  c22 97 99 fun p1 =>
  c15 p1 fun p2 =>
  bif ((decide ((List.length (PV.els p2) : Int) = (1 : Int))) == true) then
    bif (true && decide ((0 : Int) ≤ (0 : Int)) && decide ((0 : Int) < (List.length (PV.els p2) : Int))) then
      bif ((PV.beq (List.getD (PV.els p2) ((0 : Int)).toNat PV.nil) (PV.agg [(PV.int 97), (PV.int 99)])) == true) then
        c23 p1 98 fun b3 =>
        bif (b3 == true) then
          c23 p1 100 fun b4 =>
          bif ((!b4) == true) then
            c16 p1 fun n5 =>
            ret0 (decide (n5 = (3 : Int)))
          else ret0 false
        else ret0 false
      else ret0 false
    else none
  else ret0 false

theorem f14_e_mem (k : Nat) (c15 : PV → (PV → R) → R) (c16 : PV → (Int → R) → R) (c22 : Int → Int → (PV → R) → R) (c23 : PV → Int → (Bool → R) → R) (retF : Bool → R) : exec (f14_E k c15 c16 c22 c23) f14_code (endK (f14_E k c15 c16 c22 c23) Try.f14 [] f14_un retF) ⟨[.undef, .undef, .undef, .undef, .undef, .undef, .undef, .undef, .undef, .undef, .undef, .undef, .undef, .undef, .undef, .undef, .undef, .undef, .undef, .undef, .undef, .undef, .undef, .undef, .undef, .undef, .undef, .undef, .undef, .undef], []⟩ = f14_e c15 c16 c22 c23 (fun y0 => retF y0) := by kernel_rfl

noncomputable def f14_N (k : Nat) (c15 : PV → (PV → R) → R) (c16 : PV → (Int → R) → R) (c22 : Int → Int → (PV → R) → R) (c23 : PV → Int → (Bool → R) → R) (ret0 : Bool → R) : R :=
  f14_e c15 c16 c22 c23 ret0
theorem f14_eq (k : Nat) (c15 : PV → (PV → R) → R) (c16 : PV → (Int → R) → R) (c22 : Int → Int → (PV → R) → R) (c23 : PV → Int → (Bool → R) → R) (retF : Bool → R) : exec (f14_E k c15 c16 c22 c23) f14_code (endK (f14_E k c15 c16 c22 c23) Try.f14 [] f14_un retF) ⟨[.undef, .undef, .undef, .undef, .undef, .undef, .undef, .undef, .undef, .undef, .undef, .undef, .undef, .undef, .undef, .undef, .undef, .undef, .undef, .undef, .undef, .undef, .undef, .undef, .undef, .undef, .undef, .undef, .undef, .undef], []⟩ = f14_N k c15 c16 c22 c23 (fun y0 => retF y0) :=
  (f14_e_mem k c15 c16 c22 c23 retF)

noncomputable def G14 : Nat → (Bool → R) → R
  | 0, _ => none
  | k + 1, ret0 => f14_N k (G15 k) (G16 k) (G22 k) (G23 k) ret0 
theorem S14 : ∀ k, Snd Try.prog 14 f14_I f14_O (fun x ret => G14 k (fun y0 => ret y0))
  | 0 => snd_none
  | k + 1 => snd_step (E := f14_E k (G15 k) (G16 k) (G22 k) (G23 k)) rfl laidOut noNums (orc_ok (S15 k).o f15_D_ok (orc_ok (S16 k).o f16_D_ok (orc_ok (S22 k).o f22_D_ok (orc_ok (S23 k).o f23_D_ok orc0_ok)))) (f := 14) (fn := Try.f14) (code := f14_code) Try.func14 (by kernel_rfl) (drawsOk_of laidOut (orc_ok (S15 k).o f15_D_ok (orc_ok (S16 k).o f16_D_ok (orc_ok (S22 k).o f22_D_ok (orc_ok (S23 k).o f23_D_ok orc0_ok)))) mixed (by kernel_rfl)) f14_un f14_un_ok [] (fun _ => rfl)
      (fun x ret => f14_eq k (G15 k) (G16 k) (G22 k) (G23 k) ret)

/- catchpole/catchpolelaw1.BytesetRuns -/
noncomputable def f3_I : PV → List SV × Obs := fun x => ([.val 24 x], [])
noncomputable def f3_D : List SV → Obs → Option (PV)
  | [.val 24 p1], [] => some p1
  | _, _ => none
theorem f3_D_ok (args : List SV) (B : Obs) (x : PV) (h : f3_D args B = some x) : f3_I x = (args, B) := by
  unfold f3_D at h
  split at h
  · injection h with h; subst h; rfl
  · cases h
noncomputable def f3_O : Bool → Out := (fun y => ([.bool y], []))
noncomputable def f3_un : Out → Option (Bool)
  | ([.bool y0], []) => some y0
  | _ => none
theorem f3_un_ok (o : Out) (y : Bool) (h : f3_un o = some y) : o = f3_O y := by
  unfold f3_un at h
  split at h
  · injection h with h; subst h; rfl
  · cases h
noncomputable def f3_msk : Nat → Option (List Nat) := fun key => bif key == 18 then some [1, 3, 4, 5] else none
noncomputable def f3_C (c14 : (Bool → R) → R) (c15 : PV → (PV → R) → R) (c16 : PV → (Int → R) → R) : Oracle := orc 14 f14_D f14_O (fun x ret => c14 (fun y0 => ret y0)) <| orc 15 f15_D f15_O (fun x ret => c15 x (fun y0 => ret y0)) <| orc 16 f16_D f16_O (fun x ret => c16 x (fun y0 => ret y0)) <| orc0
noncomputable def f3_E (k : Nat) (c14 : (Bool → R) → R) (c15 : PV → (PV → R) → R) (c16 : PV → (Int → R) → R) : Env := { P := Try.prog, nilOwn := fun d => false, fldOwn := fun d i => false, ownPar := ownPars, ownRet := false, mask := f3_msk, fuel := k, C := f3_C c14 c15 c16 }
noncomputable def f3_code : Code := Try.f3.body.getD .skip
noncomputable def f3_cw1 : Code := subC f3_code [1, 1, 1, 1, 0, 1, 0, 0]
noncomputable def f3_hw1_0 (p1 : PV) (p3 : PV) (n8 : Int) (n9 : Int) : St := ⟨[.dead, .ptr 1 [], .dead, .val 26 p3, .int .i64 n8, .int .i64 n9, .dead, .dead, .dead, .dead, .dead, .dead, .dead, .dead, .dead, .dead, .dead, .dead, .dead, .dead, .dead, .dead, .dead, .dead, .dead, .dead, .dead, .dead, .dead, .dead, .dead, .dead, .dead, .dead, .dead, .dead, .dead, .dead, .dead, .dead, .dead, .dead, .dead, .dead, .dead, .dead, .dead, .dead, .dead, .dead, .dead, .dead, .dead, .dead, .dead, .dead, .dead, .dead, .dead, .dead, .dead, .dead, .dead, .dead, .dead, .dead, .dead, .dead], [(1, .box 24 (.val 24 p1))]⟩
noncomputable def f3_w1A (k : Nat) (c14 : (Bool → R) → R) (c15 : PV → (PV → R) → R) (c16 : PV → (Int → R) → R) (retF : Bool → R) (p1 : PV) (p3 : PV) (n8 : Int) (n9 : Int) : R := loopM (f3_E k c14 c15 c16) f3_cw1 (kont (f3_E k c14 c15 c16) f3_code [1, 1, 1, 1, 0, 1, 0] (endK (f3_E k c14 c15 c16) Try.f3 [] f3_un retF)) k (f3_hw1_0 p1 p3 n8 n9)
noncomputable def f3_w1b0 (c14 : (Bool → R) → R) (c15 : PV → (PV → R) → R) (c16 : PV → (Int → R) → R) (ret0 : Bool → R) (next_w1_0 : Int → Int → R) (p1 : PV) (p3 : PV) (n8 : Int) (n9 : Int) : R :=
  bif (decide (n9 < (List.length (PV.els p3) : Int))) then
    bif (true && decide ((0 : Int) ≤ n9) && decide (n9 < (List.length (PV.els p3) : Int))) then
      bif (true && decide ((0 : Int) ≤ n9) && decide (n9 < (List.length (PV.els p3) : Int))) then
        let b10 : Bool := (decide ((PV.num (PV.fld (List.getD (PV.els p3) (n9).toNat PV.nil) 1)) < (PV.num (PV.fld (List.getD (PV.els p3) (n9).toNat PV.nil) 0))))
        bif (b10 == false) then
          bif ((decide ((0 : Int) < n9)) == true) then
            bif (true && decide ((0 : Int) ≤ n9) && decide (n9 < (List.length (PV.els p3) : Int))) then
              bif (true && decide ((0 : Int) ≤ (IntKind.wrap .i64 (n9 - (1 : Int)))) && decide ((IntKind.wrap .i64 (n9 - (1 : Int))) < (List.length (PV.els p3) : Int))) then
                let n11 : Int := (IntKind.wrap .i64 (PV.num (PV.fld (List.getD (PV.els p3) ((IntKind.wrap .i64 (n9 - (1 : Int)))).toNat PV.nil) 1)))
                let b12 : Bool := (decide ((IntKind.wrap .i64 (PV.num (PV.fld (List.getD (PV.els p3) (n9).toNat PV.nil) 0))) ≤ (IntKind.wrap .i64 (n11 + (1 : Int)))))
                bif b12 then
                  ret0 false
                else bif (true && decide ((0 : Int) ≤ n9) && decide (n9 < (List.length (PV.els p3) : Int))) then
                  let n13 : Int := (IntKind.wrap .i64 (n8 + (IntKind.wrap .i64 (PV.num (PV.fld (List.getD (PV.els p3) (n9).toNat PV.nil) 1)))))
                  bif (true && decide ((0 : Int) ≤ n9) && decide (n9 < (List.length (PV.els p3) : Int))) then
                    let n14 : Int := (IntKind.wrap .i64 (n13 - (IntKind.wrap .i64 (PV.num (PV.fld (List.getD (PV.els p3) (n9).toNat PV.nil) 0)))))
                    next_w1_0 (IntKind.wrap .i64 (n14 + (1 : Int))) (IntKind.wrap .i64 (n9 + (1 : Int)))
                  else none
                else none
              else none
            else none
          else bif (true && decide ((0 : Int) ≤ n9) && decide (n9 < (List.length (PV.els p3) : Int))) then
            let n15 : Int := (IntKind.wrap .i64 (n8 + (IntKind.wrap .i64 (PV.num (PV.fld (List.getD (PV.els p3) (n9).toNat PV.nil) 1)))))
            bif (true && decide ((0 : Int) ≤ n9) && decide (n9 < (List.length (PV.els p3) : Int))) then
              let n16 : Int := (IntKind.wrap .i64 (n15 - (IntKind.wrap .i64 (PV.num (PV.fld (List.getD (PV.els p3) (n9).toNat PV.nil) 0)))))
              next_w1_0 (IntKind.wrap .i64 (n16 + (1 : Int))) (IntKind.wrap .i64 (n9 + (1 : Int)))
            else none
          else none
        else ret0 false
      else none
    else none
  else c16 p1 fun n17 =>
  ret0 (decide (n8 = n17))

theorem f3_w1b0_mem (k : Nat) (c14 : (Bool → R) → R) (c15 : PV → (PV → R) → R) (c16 : PV → (Int → R) → R) (retF : Bool → R) (NX_w1 : St → R) (p1 : PV) (p3 : PV) (n8 : Int) (n9 : Int) : exec (f3_E k c14 c15 c16) f3_cw1 (purgeK (f3_E k c14 c15 c16) f3_cw1 (loopK NX_w1 (kont (f3_E k c14 c15 c16) f3_code [1, 1, 1, 1, 0, 1, 0] (endK (f3_E k c14 c15 c16) Try.f3 [] f3_un retF)))) (f3_hw1_0 p1 p3 n8 n9) = f3_w1b0 c14 c15 c16 (fun y0 => retF y0) (fun n8 n9 => NX_w1 (f3_hw1_0 p1 p3 n8 n9)) p1 p3 n8 n9 := by kernel_rfl

noncomputable def f3_w1b0N (k : Nat) (c14 : (Bool → R) → R) (c15 : PV → (PV → R) → R) (c16 : PV → (Int → R) → R) (ret0 : Bool → R) (next_w1_0 : Int → Int → R) (p1 : PV) (p3 : PV) (n8 : Int) (n9 : Int) : R :=
  f3_w1b0 c14 c15 c16 ret0 next_w1_0 p1 p3 n8 n9
theorem f3_w1b0_eq (k : Nat) (c14 : (Bool → R) → R) (c15 : PV → (PV → R) → R) (c16 : PV → (Int → R) → R) (retF : Bool → R) (NX_w1 : St → R) (p1 : PV) (p3 : PV) (n8 : Int) (n9 : Int) : exec (f3_E k c14 c15 c16) f3_cw1 (purgeK (f3_E k c14 c15 c16) f3_cw1 (loopK NX_w1 (kont (f3_E k c14 c15 c16) f3_code [1, 1, 1, 1, 0, 1, 0] (endK (f3_E k c14 c15 c16) Try.f3 [] f3_un retF)))) (f3_hw1_0 p1 p3 n8 n9) = f3_w1b0N k c14 c15 c16 (fun y0 => retF y0) (fun n8 n9 => NX_w1 (f3_hw1_0 p1 p3 n8 n9)) p1 p3 n8 n9 :=
  (f3_w1b0_mem k c14 c15 c16 retF NX_w1 p1 p3 n8 n9)

noncomputable def f3_w1B (k : Nat) (c14 : (Bool → R) → R) (c15 : PV → (PV → R) → R) (c16 : PV → (Int → R) → R) (ret0 : Bool → R) (p1 : PV) (p3 : PV) (nx : Int × Int → R) : Int × Int → R := (fun s => f3_w1b0N k c14 c15 c16 ret0 (fun n8 n9 => nx (n8, n9)) p1 p3 s.1 s.2)
noncomputable def f3_w1N (k : Nat) (c14 : (Bool → R) → R) (c15 : PV → (PV → R) → R) (c16 : PV → (Int → R) → R) (ret0 : Bool → R) (p1 : PV) (p3 : PV) (n8 : Int) (n9 : Int) : R := loopR (f3_w1B k c14 c15 c16 ret0 p1 p3) k (n8, n9)
theorem f3_w1_eq (k : Nat) (c14 : (Bool → R) → R) (c15 : PV → (PV → R) → R) (c16 : PV → (Int → R) → R) (retF : Bool → R) (p1 : PV) (p3 : PV) (n8 : Int) (n9 : Int) : f3_w1A k c14 c15 c16 retF p1 p3 n8 n9 = f3_w1N k c14 c15 c16 (fun y0 => retF y0) p1 p3 n8 n9 :=
  Eq.mp (by kernel_rfl) (loop_sim (E := (f3_E k c14 c15 c16)) (c := f3_cw1) (K := (kont (f3_E k c14 c15 c16) f3_code [1, 1, 1, 1, 0, 1, 0] (endK (f3_E k c14 c15 c16) Try.f3 [] f3_un retF))) (S := Int × Int) (fun s => f3_hw1_0 p1 p3 s.1 s.2) (f3_w1B k c14 c15 c16 (fun y0 => retF y0) p1 p3) (fun NX s => by
    exact Eq.mp (by kernel_rfl) (f3_w1b0_eq k c14 c15 c16 retF NX p1 p3 s.1 s.2)) k (n8, n9))

noncomputable def f3_e (c14 : (Bool → R) → R) (c15 : PV → (PV → R) → R) (c16 : PV → (Int → R) → R) (ret0 : Bool → R) (w1 : PV → Int → Int → R) (p1 : PV) : R :=
  c14 fun b2 =>
  bif (!b2) then
    ret0 false
  else c15 p1 fun p3 =>
  w1 p3 0 0

theorem f3_e_mem (k : Nat) (c14 : (Bool → R) → R) (c15 : PV → (PV → R) → R) (c16 : PV → (Int → R) → R) (retF : Bool → R) (p1 : PV) : exec (f3_E k c14 c15 c16) f3_code (endK (f3_E k c14 c15 c16) Try.f3 [] f3_un retF) ⟨[.val 24 p1, .undef, .undef, .undef, .undef, .undef, .undef, .undef, .undef, .undef, .undef, .undef, .undef, .undef, .undef, .undef, .undef, .undef, .undef, .undef, .undef, .undef, .undef, .undef, .undef, .undef, .undef, .undef, .undef, .undef, .undef, .undef, .undef, .undef, .undef, .undef, .undef, .undef, .undef, .undef, .undef, .undef, .undef, .undef, .undef, .undef, .undef, .undef, .undef, .undef, .undef, .undef, .undef, .undef, .undef, .undef, .undef, .undef, .undef, .undef, .undef, .undef, .undef, .undef, .undef, .undef, .undef, .undef], []⟩ = f3_e c14 c15 c16 (fun y0 => retF y0) (fun p3 n8 n9 => f3_w1A k c14 c15 c16 retF p1 p3 n8 n9) p1 := by kernel_rfl

noncomputable def f3_N (k : Nat) (c14 : (Bool → R) → R) (c15 : PV → (PV → R) → R) (c16 : PV → (Int → R) → R) (ret0 : Bool → R) (p1 : PV) : R :=
  f3_e c14 c15 c16 ret0 (fun p3 n8 n9 => f3_w1N k c14 c15 c16 ret0 p1 p3 n8 n9) p1
theorem f3_eq (k : Nat) (c14 : (Bool → R) → R) (c15 : PV → (PV → R) → R) (c16 : PV → (Int → R) → R) (retF : Bool → R) (p1 : PV) : exec (f3_E k c14 c15 c16) f3_code (endK (f3_E k c14 c15 c16) Try.f3 [] f3_un retF) ⟨[.val 24 p1, .undef, .undef, .undef, .undef, .undef, .undef, .undef, .undef, .undef, .undef, .undef, .undef, .undef, .undef, .undef, .undef, .undef, .undef, .undef, .undef, .undef, .undef, .undef, .undef, .undef, .undef, .undef, .undef, .undef, .undef, .undef, .undef, .undef, .undef, .undef, .undef, .undef, .undef, .undef, .undef, .undef, .undef, .undef, .undef, .undef, .undef, .undef, .undef, .undef, .undef, .undef, .undef, .undef, .undef, .undef, .undef, .undef, .undef, .undef, .undef, .undef, .undef, .undef, .undef, .undef, .undef, .undef], []⟩ = f3_N k c14 c15 c16 (fun y0 => retF y0) p1 :=
  (f3_e_mem k c14 c15 c16 retF p1).trans (by rw [show (fun p3 n8 n9 => f3_w1A k c14 c15 c16 retF p1 p3 n8 n9) = (fun p3 n8 n9 => f3_w1N k c14 c15 c16 (fun y0 => retF y0) p1 p3 n8 n9) from funext fun p3 => funext fun n8 => funext fun n9 => f3_w1_eq k c14 c15 c16 retF p1 p3 n8 n9]; rfl)

noncomputable def G3 : Nat → PV → (Bool → R) → R
  | 0, _, _ => none
  | k + 1, p1, ret0 => f3_N k (G14 k) (G15 k) (G16 k) ret0 p1
theorem S3 : ∀ k, Snd Try.prog 3 f3_I f3_O (fun x ret => G3 k x (fun y0 => ret y0))
  | 0 => snd_none
  | k + 1 => snd_step (E := f3_E k (G14 k) (G15 k) (G16 k)) rfl laidOut noNums (orc_ok (S14 k).o f14_D_ok (orc_ok (S15 k).o f15_D_ok (orc_ok (S16 k).o f16_D_ok orc0_ok))) (f := 3) (fn := Try.f3) (code := f3_code) Try.func3 (by kernel_rfl) (drawsOk_of laidOut (orc_ok (S14 k).o f14_D_ok (orc_ok (S15 k).o f15_D_ok (orc_ok (S16 k).o f16_D_ok orc0_ok))) mixed (by kernel_rfl)) f3_un f3_un_ok [] (fun _ => rfl)
      (fun x ret => f3_eq k (G14 k) (G15 k) (G16 k) ret x)

/- catchpole/byteset.Of -/
noncomputable def f18_I : PV → List SV × Obs := fun x => ([.val 32 x], [])
noncomputable def f18_D : List SV → Obs → Option (PV)
  | [.val 32 p1], [] => some p1
  | _, _ => none
theorem f18_D_ok (args : List SV) (B : Obs) (x : PV) (h : f18_D args B = some x) : f18_I x = (args, B) := by
  unfold f18_D at h
  split at h
  · injection h with h; subst h; rfl
  · cases h
noncomputable def f18_O : PV → Out := (fun y => ([.val 24 y], []))
noncomputable def f18_un : Out → Option (PV)
  | ([.val 24 y0], []) => some y0
  | _ => none
theorem f18_un_ok (o : Out) (y : PV) (h : f18_un o = some y) : o = f18_O y := by
  unfold f18_un at h
  split at h
  · injection h with h; subst h; rfl
  · cases h
noncomputable def f18_msk : Nat → Option (List Nat) := fun key => bif key == 9 then some [2, 3, 6, 7, 8] else none
noncomputable def f18_C : Oracle := orc0
noncomputable def f18_E (k : Nat) : Env := { P := Try.prog, nilOwn := fun d => false, fldOwn := fun d i => false, ownPar := ownPars, ownRet := false, mask := f18_msk, fuel := k, C := f18_C }
noncomputable def f18_code : Code := Try.f18.body.getD .skip
noncomputable def f18_cw1 : Code := subC f18_code [1, 1, 0, 1, 0, 0]
noncomputable def f18_hw1_0 (p1 : PV) (n5 : Int) (p6 : PV) : St := ⟨[.dead, .dead, .ptr 2 [], .ptr 3 [], .dead, .dead, .val 32 p1, .int .i64 (List.length (PV.els p1) : Int), .int .i64 n5, .dead, .dead, .dead, .dead, .dead, .dead, .dead, .dead, .dead, .dead, .dead, .dead, .dead, .dead], [(2, .box 24 (.val 24 (PV.agg [(PV.int 0), (PV.int 0), (PV.int 0), (PV.int 0)]))), (3, .box 24 (.val 24 p6))]⟩
noncomputable def f18_w1A (k : Nat) (retF : PV → R) (p1 : PV) (n5 : Int) (p6 : PV) : R := loopM (f18_E k) f18_cw1 (kont (f18_E k) f18_code [1, 1, 0, 1, 0] (endK (f18_E k) Try.f18 [] f18_un retF)) k (f18_hw1_0 p1 n5 p6)
noncomputable def f18_w1b0 (ret0 : PV → R) (next_w1_0 : Int → PV → R) (p1 : PV) (n5 : Int) (p6 : PV) : R :=
  bif (decide (n5 < (List.length (PV.els p1) : Int))) then
    bif (true && decide ((0 : Int) ≤ n5) && decide (n5 < (List.length (PV.els p1) : Int))) then
      bif (true && decide ((0 : Int) ≤ (IntKind.wrap .u8 (Int.tdiv (PV.num (List.getD (PV.els p1) (n5).toNat PV.nil)) 64))) && decide ((IntKind.wrap .u8 (Int.tdiv (PV.num (List.getD (PV.els p1) (n5).toNat PV.nil)) 64)) < 4)) then
        let n7 : Int := (PV.num (PV.fld p6 ((IntKind.wrap .u8 (Int.tdiv (PV.num (List.getD (PV.els p1) (n5).toNat PV.nil)) 64))).toNat))
        bif (decide ((0 : Int) ≤ (Int.tmod (PV.num (List.getD (PV.els p1) (n5).toNat PV.nil)) 64))) then
          let n8 : Int := (IntKind.wrap .u64 ((1 : Int) * 2 ^ (min ((Int.tmod (PV.num (List.getD (PV.els p1) (n5).toNat PV.nil)) 64)).toNat 64)))
          bif (true && decide ((0 : Int) ≤ (IntKind.wrap .u8 (Int.tdiv (PV.num (List.getD (PV.els p1) (n5).toNat PV.nil)) 64))) && decide ((IntKind.wrap .u8 (Int.tdiv (PV.num (List.getD (PV.els p1) (n5).toNat PV.nil)) 64)) < 4)) then
            let p9 : PV := (PV.agg (List.set (PV.flds p6) ((IntKind.wrap .u8 (Int.tdiv (PV.num (List.getD (PV.els p1) (n5).toNat PV.nil)) 64))).toNat (PV.int (intBit .or .u64 n7 n8))))
            next_w1_0 (IntKind.wrap .i64 (n5 + (1 : Int))) p9
          else none
        else none
      else none
    else none
  else ret0 p6

theorem f18_w1b0_mem (k : Nat) (retF : PV → R) (NX_w1 : St → R) (p1 : PV) (n5 : Int) (p6 : PV) : exec (f18_E k) f18_cw1 (purgeK (f18_E k) f18_cw1 (loopK NX_w1 (kont (f18_E k) f18_code [1, 1, 0, 1, 0] (endK (f18_E k) Try.f18 [] f18_un retF)))) (f18_hw1_0 p1 n5 p6) = f18_w1b0 (fun y0 => retF y0) (fun n5 p6 => NX_w1 (f18_hw1_0 p1 n5 p6)) p1 n5 p6 := by kernel_rfl

noncomputable def f18_w1b0N (k : Nat) (ret0 : PV → R) (next_w1_0 : Int → PV → R) (p1 : PV) (n5 : Int) (p6 : PV) : R :=
  f18_w1b0 ret0 next_w1_0 p1 n5 p6
theorem f18_w1b0_eq (k : Nat) (retF : PV → R) (NX_w1 : St → R) (p1 : PV) (n5 : Int) (p6 : PV) : exec (f18_E k) f18_cw1 (purgeK (f18_E k) f18_cw1 (loopK NX_w1 (kont (f18_E k) f18_code [1, 1, 0, 1, 0] (endK (f18_E k) Try.f18 [] f18_un retF)))) (f18_hw1_0 p1 n5 p6) = f18_w1b0N k (fun y0 => retF y0) (fun n5 p6 => NX_w1 (f18_hw1_0 p1 n5 p6)) p1 n5 p6 :=
  (f18_w1b0_mem k retF NX_w1 p1 n5 p6)

noncomputable def f18_w1B (k : Nat) (ret0 : PV → R) (p1 : PV) (nx : Int × PV → R) : Int × PV → R := (fun s => f18_w1b0N k ret0 (fun n5 p6 => nx (n5, p6)) p1 s.1 s.2)
noncomputable def f18_w1N (k : Nat) (ret0 : PV → R) (p1 : PV) (n5 : Int) (p6 : PV) : R := loopR (f18_w1B k ret0 p1) k (n5, p6)
theorem f18_w1_eq (k : Nat) (retF : PV → R) (p1 : PV) (n5 : Int) (p6 : PV) : f18_w1A k retF p1 n5 p6 = f18_w1N k (fun y0 => retF y0) p1 n5 p6 :=
  Eq.mp (by kernel_rfl) (loop_sim (E := (f18_E k)) (c := f18_cw1) (K := (kont (f18_E k) f18_code [1, 1, 0, 1, 0] (endK (f18_E k) Try.f18 [] f18_un retF))) (S := Int × PV) (fun s => f18_hw1_0 p1 s.1 s.2) (f18_w1B k (fun y0 => retF y0) p1) (fun NX s => by
    exact Eq.mp (by kernel_rfl) (f18_w1b0_eq k retF NX p1 s.1 s.2)) k (n5, p6))

noncomputable def f18_e (ret0 : PV → R) (w1 : Int → PV → R) (p1 : PV) : R :=
  w1 0 (PV.agg [(PV.int 0), (PV.int 0), (PV.int 0), (PV.int 0)])

theorem f18_e_mem (k : Nat) (retF : PV → R) (p1 : PV) : exec (f18_E k) f18_code (endK (f18_E k) Try.f18 [] f18_un retF) ⟨[.val 32 p1, .undef, .undef, .undef, .undef, .undef, .undef, .undef, .undef, .undef, .undef, .undef, .undef, .undef, .undef, .undef, .undef, .undef, .undef, .undef, .undef, .undef, .undef], []⟩ = f18_e (fun y0 => retF y0) (fun n5 p6 => f18_w1A k retF p1 n5 p6) p1 := by kernel_rfl

noncomputable def f18_N (k : Nat) (ret0 : PV → R) (p1 : PV) : R :=
  f18_e ret0 (fun n5 p6 => f18_w1N k ret0 p1 n5 p6) p1
theorem f18_eq (k : Nat) (retF : PV → R) (p1 : PV) : exec (f18_E k) f18_code (endK (f18_E k) Try.f18 [] f18_un retF) ⟨[.val 32 p1, .undef, .undef, .undef, .undef, .undef, .undef, .undef, .undef, .undef, .undef, .undef, .undef, .undef, .undef, .undef, .undef, .undef, .undef, .undef, .undef, .undef, .undef], []⟩ = f18_N k (fun y0 => retF y0) p1 :=
  (f18_e_mem k retF p1).trans (by rw [show (fun n5 p6 => f18_w1A k retF p1 n5 p6) = (fun n5 p6 => f18_w1N k (fun y0 => retF y0) p1 n5 p6) from funext fun n5 => funext fun p6 => f18_w1_eq k retF p1 n5 p6]; rfl)

noncomputable def G18 : Nat → PV → (PV → R) → R
  | 0, _, _ => none
  | k + 1, p1, ret0 => f18_N k  ret0 p1
theorem S18 : ∀ k, Snd Try.prog 18 f18_I f18_O (fun x ret => G18 k x (fun y0 => ret y0))
  | 0 => snd_none
  | k + 1 => snd_step (E := f18_E k ) rfl laidOut noNums orc0_ok (f := 18) (fn := Try.f18) (code := f18_code) Try.func18 (by kernel_rfl) (drawsOk_of laidOut orc0_ok mixed (by kernel_rfl)) f18_un f18_un_ok [] (fun _ => rfl)
      (fun x ret => f18_eq k  ret x)

/- (catchpole/byteset.Set).Least -/
noncomputable def f19_I : PV → List SV × Obs := fun x => ([.val 24 x], [])
noncomputable def f19_D : List SV → Obs → Option (PV)
  | [.val 24 p1], [] => some p1
  | _, _ => none
theorem f19_D_ok (args : List SV) (B : Obs) (x : PV) (h : f19_D args B = some x) : f19_I x = (args, B) := by
  unfold f19_D at h
  split at h
  · injection h with h; subst h; rfl
  · cases h
noncomputable def f19_O : Int × Bool → Out := (fun y => ([.int .u8 y.1, .bool y.2], []))
noncomputable def f19_un : Out → Option (Int × Bool)
  | ([.int .u8 y0, .bool y1], []) => some (y0, y1)
  | _ => none
theorem f19_un_ok (o : Out) (y : Int × Bool) (h : f19_un o = some y) : o = f19_O y := by
  unfold f19_un at h
  split at h
  · injection h with h; subst h; rfl
  · cases h
noncomputable def f19_msk : Nat → Option (List Nat) := fun key =>  none
noncomputable def f19_C (c17 : PV → (PV → R) → R) : Oracle := orc 17 f17_D f17_O (fun x ret => c17 x (fun y0 => ret y0)) <| orc0
noncomputable def f19_E (k : Nat) (c17 : PV → (PV → R) → R) : Env := { P := Try.prog, nilOwn := fun d => false, fldOwn := fun d i => false, ownPar := ownPars, ownRet := false, mask := f19_msk, fuel := k, C := f19_C c17 }
noncomputable def f19_code : Code := Try.f19.body.getD .skip
noncomputable def f19_e (c17 : PV → (PV → R) → R) (ret0 : Int → Bool → R) (p1 : PV) : R :=
  c17 p1 fun p2 =>
  bif (decide ((List.length (PV.els p2) : Int) = (0 : Int))) then
    ret0 0 false
  else bif (true && decide ((0 : Int) ≤ (0 : Int)) && decide ((0 : Int) < (List.length (PV.els p2) : Int))) then
    ret0 (PV.num (List.getD (PV.els p2) ((0 : Int)).toNat PV.nil)) true
  else none

theorem f19_e_mem (k : Nat) (c17 : PV → (PV → R) → R) (retF : Int × Bool → R) (p1 : PV) : exec (f19_E k c17) f19_code (endK (f19_E k c17) Try.f19 [] f19_un retF) ⟨[.val 24 p1, .undef, .undef, .undef, .undef, .undef, .undef, .undef, .undef, .undef, .undef, .undef, .undef], []⟩ = f19_e c17 (fun y0 y1 => retF (y0, y1)) p1 := by kernel_rfl

noncomputable def f19_N (k : Nat) (c17 : PV → (PV → R) → R) (ret0 : Int → Bool → R) (p1 : PV) : R :=
  f19_e c17 ret0 p1
theorem f19_eq (k : Nat) (c17 : PV → (PV → R) → R) (retF : Int × Bool → R) (p1 : PV) : exec (f19_E k c17) f19_code (endK (f19_E k c17) Try.f19 [] f19_un retF) ⟨[.val 24 p1, .undef, .undef, .undef, .undef, .undef, .undef, .undef, .undef, .undef, .undef, .undef, .undef], []⟩ = f19_N k c17 (fun y0 y1 => retF (y0, y1)) p1 :=
  (f19_e_mem k c17 retF p1)

noncomputable def G19 : Nat → PV → (Int → Bool → R) → R
  | 0, _, _ => none
  | k + 1, p1, ret0 => f19_N k (G17 k) ret0 p1
theorem S19 : ∀ k, Snd Try.prog 19 f19_I f19_O (fun x ret => G19 k x (fun y0 y1 => ret (y0, y1)))
  | 0 => snd_none
  | k + 1 => snd_step (E := f19_E k (G17 k)) rfl laidOut noNums (orc_ok (S17 k).o f17_D_ok orc0_ok) (f := 19) (fn := Try.f19) (code := f19_code) Try.func19 (by kernel_rfl) (drawsOk_of laidOut (orc_ok (S17 k).o f17_D_ok orc0_ok) mixed (by kernel_rfl)) f19_un f19_un_ok [] (fun _ => rfl)
      (fun x ret => f19_eq k (G17 k) ret x)

/- catchpole/catchpolelaw1.BytesetList -/
noncomputable def f4_I : PV × Int → List SV × Obs := fun x => ([.val 24 x.1, .int .i64 x.2], [])
noncomputable def f4_D : List SV → Obs → Option (PV × Int)
  | [.val 24 p1, .int .i64 n2], [] => some (p1, n2)
  | _, _ => none
theorem f4_D_ok (args : List SV) (B : Obs) (x : PV × Int) (h : f4_D args B = some x) : f4_I x = (args, B) := by
  unfold f4_D at h
  split at h
  · injection h with h; subst h; rfl
  · cases h
noncomputable def f4_O : Bool → Out := (fun y => ([.bool y], []))
noncomputable def f4_un : Out → Option (Bool)
  | ([.bool y0], []) => some y0
  | _ => none
theorem f4_un_ok (o : Out) (y : Bool) (h : f4_un o = some y) : o = f4_O y := by
  unfold f4_un at h
  split at h
  · injection h with h; subst h; rfl
  · cases h
noncomputable def f4_msk : Nat → Option (List Nat) := fun key => bif key == 24 then some [1, 2, 5, 6, 7] else none
noncomputable def f4_C (c14 : (Bool → R) → R) (c16 : PV → (Int → R) → R) (c17 : PV → (PV → R) → R) (c18 : PV → (PV → R) → R) (c19 : PV → (Int → Bool → R) → R) : Oracle := orc 14 f14_D f14_O (fun x ret => c14 (fun y0 => ret y0)) <| orc 16 f16_D f16_O (fun x ret => c16 x (fun y0 => ret y0)) <| orc 17 f17_D f17_O (fun x ret => c17 x (fun y0 => ret y0)) <| orc 18 f18_D f18_O (fun x ret => c18 x (fun y0 => ret y0)) <| orc 19 f19_D f19_O (fun x ret => c19 x (fun y0 y1 => ret (y0, y1))) <| orc0
noncomputable def f4_E (k : Nat) (c14 : (Bool → R) → R) (c16 : PV → (Int → R) → R) (c17 : PV → (PV → R) → R) (c18 : PV → (PV → R) → R) (c19 : PV → (Int → Bool → R) → R) : Env := { P := Try.prog, nilOwn := fun d => d == 6, fldOwn := fun d i => false, ownPar := ownPars, ownRet := false, mask := f4_msk, fuel := k, C := f4_C c14 c16 c17 c18 c19 }
noncomputable def f4_code : Code := Try.f4.body.getD .skip
noncomputable def f4_cw1 : Code := subC f4_code [1, 1, 1, 1, 1, 0, 1, 0, 0]
noncomputable def f4_hw1_0 (p1 : PV) (n2 : Int) (p4 : PV) (n11 : Int) (l12 : List PV) : St := ⟨[.dead, .int .i64 n2, .ptr 2 [], .dead, .dead, .val 32 p4, .own 32 6, .int .i64 n11, .dead, .dead, .dead, .dead, .dead, .dead, .dead, .dead, .dead, .dead, .dead, .dead, .dead, .dead, .dead, .dead, .dead, .dead, .dead, .dead, .dead, .dead, .dead, .dead, .dead, .dead, .dead, .dead, .dead, .dead, .dead, .dead, .dead, .dead, .dead, .dead, .dead, .dead, .dead, .dead, .dead, .dead, .dead, .dead, .dead, .dead, .dead, .dead, .dead, .dead, .dead, .dead, .dead, .dead, .dead, .dead, .dead, .dead, .dead, .dead, .dead, .dead, .dead, .dead, .dead, .dead, .dead, .dead], [(2, .box 24 (.val 24 p1)), (6, .row 5 l12)]⟩
noncomputable def f4_w1A (k : Nat) (c14 : (Bool → R) → R) (c16 : PV → (Int → R) → R) (c17 : PV → (PV → R) → R) (c18 : PV → (PV → R) → R) (c19 : PV → (Int → Bool → R) → R) (retF : Bool → R) (p1 : PV) (n2 : Int) (p4 : PV) (n11 : Int) (l12 : List PV) : R := loopM (f4_E k c14 c16 c17 c18 c19) f4_cw1 (kont (f4_E k c14 c16 c17 c18 c19) f4_code [1, 1, 1, 1, 1, 0, 1, 0] (endK (f4_E k c14 c16 c17 c18 c19) Try.f4 [] f4_un retF)) k (f4_hw1_0 p1 n2 p4 n11 l12)
noncomputable def f4_w1b0 (c14 : (Bool → R) → R) (c16 : PV → (Int → R) → R) (c17 : PV → (PV → R) → R) (c18 : PV → (PV → R) → R) (c19 : PV → (Int → Bool → R) → R) (ret0 : Bool → R) (next_w1_0 : Int → (List PV) → R) (p1 : PV) (n2 : Int) (p4 : PV) (n11 : Int) (l12 : List PV) : R :=
  bif (decide (n11 < (List.length (PV.els p4) : Int))) then
    bif (decide ((List.length (PV.els p4) : Int) = (0 : Int))) then
      none
    else bif (decide ((List.length (PV.els p4) : Int) = (0 : Int))) then
      none
    else let n13 : Int := (Int.tmod (IntKind.wrap .i64 (n11 + (Int.tmod n2 (List.length (PV.els p4) : Int)))) (List.length (PV.els p4) : Int))
    bif (true && decide ((0 : Int) ≤ n13) && decide (n13 < (List.length (PV.els p4) : Int))) then
      bif (true && roomy (List.length l12 + List.length [(PV.int (PV.num (List.getD (PV.els p4) (n13).toNat PV.nil)))]) 1) then
        next_w1_0 (IntKind.wrap .i64 (n11 + (1 : Int))) (l12 ++ [(PV.int (PV.num (List.getD (PV.els p4) (n13).toNat PV.nil)))])
      else none
    else none
  else c19 p1 fun n14 b15 =>
  c18 (PV.list l12) fun p16 =>
  bif ((PV.beq p16 p1) == true) then
    bif (b15 == true) then
      bif (true && decide ((0 : Int) ≤ (0 : Int)) && decide ((0 : Int) < (List.length (PV.els p4) : Int))) then
        bif ((decide (n14 = (PV.num (List.getD (PV.els p4) ((0 : Int)).toNat PV.nil)))) == true) then
          c16 p1 fun n17 =>
          ret0 (decide ((List.length (PV.els p4) : Int) = n17))
        else ret0 false
      else none
    else ret0 false
  else ret0 false

theorem f4_w1b0_mem (k : Nat) (c14 : (Bool → R) → R) (c16 : PV → (Int → R) → R) (c17 : PV → (PV → R) → R) (c18 : PV → (PV → R) → R) (c19 : PV → (Int → Bool → R) → R) (retF : Bool → R) (NX_w1 : St → R) (p1 : PV) (n2 : Int) (p4 : PV) (n11 : Int) (l12 : List PV) : exec (f4_E k c14 c16 c17 c18 c19) f4_cw1 (purgeK (f4_E k c14 c16 c17 c18 c19) f4_cw1 (loopK NX_w1 (kont (f4_E k c14 c16 c17 c18 c19) f4_code [1, 1, 1, 1, 1, 0, 1, 0] (endK (f4_E k c14 c16 c17 c18 c19) Try.f4 [] f4_un retF)))) (f4_hw1_0 p1 n2 p4 n11 l12) = f4_w1b0 c14 c16 c17 c18 c19 (fun y0 => retF y0) (fun n11 l12 => NX_w1 (f4_hw1_0 p1 n2 p4 n11 l12)) p1 n2 p4 n11 l12 := by kernel_rfl

noncomputable def f4_w1b0N (k : Nat) (c14 : (Bool → R) → R) (c16 : PV → (Int → R) → R) (c17 : PV → (PV → R) → R) (c18 : PV → (PV → R) → R) (c19 : PV → (Int → Bool → R) → R) (ret0 : Bool → R) (next_w1_0 : Int → (List PV) → R) (p1 : PV) (n2 : Int) (p4 : PV) (n11 : Int) (l12 : List PV) : R :=
  f4_w1b0 c14 c16 c17 c18 c19 ret0 next_w1_0 p1 n2 p4 n11 l12
theorem f4_w1b0_eq (k : Nat) (c14 : (Bool → R) → R) (c16 : PV → (Int → R) → R) (c17 : PV → (PV → R) → R) (c18 : PV → (PV → R) → R) (c19 : PV → (Int → Bool → R) → R) (retF : Bool → R) (NX_w1 : St → R) (p1 : PV) (n2 : Int) (p4 : PV) (n11 : Int) (l12 : List PV) : exec (f4_E k c14 c16 c17 c18 c19) f4_cw1 (purgeK (f4_E k c14 c16 c17 c18 c19) f4_cw1 (loopK NX_w1 (kont (f4_E k c14 c16 c17 c18 c19) f4_code [1, 1, 1, 1, 1, 0, 1, 0] (endK (f4_E k c14 c16 c17 c18 c19) Try.f4 [] f4_un retF)))) (f4_hw1_0 p1 n2 p4 n11 l12) = f4_w1b0N k c14 c16 c17 c18 c19 (fun y0 => retF y0) (fun n11 l12 => NX_w1 (f4_hw1_0 p1 n2 p4 n11 l12)) p1 n2 p4 n11 l12 :=
  (f4_w1b0_mem k c14 c16 c17 c18 c19 retF NX_w1 p1 n2 p4 n11 l12)

noncomputable def f4_w1B (k : Nat) (c14 : (Bool → R) → R) (c16 : PV → (Int → R) → R) (c17 : PV → (PV → R) → R) (c18 : PV → (PV → R) → R) (c19 : PV → (Int → Bool → R) → R) (ret0 : Bool → R) (p1 : PV) (n2 : Int) (p4 : PV) (nx : Int × (List PV) → R) : Int × (List PV) → R := (fun s => f4_w1b0N k c14 c16 c17 c18 c19 ret0 (fun n11 l12 => nx (n11, l12)) p1 n2 p4 s.1 s.2)
noncomputable def f4_w1N (k : Nat) (c14 : (Bool → R) → R) (c16 : PV → (Int → R) → R) (c17 : PV → (PV → R) → R) (c18 : PV → (PV → R) → R) (c19 : PV → (Int → Bool → R) → R) (ret0 : Bool → R) (p1 : PV) (n2 : Int) (p4 : PV) (n11 : Int) (l12 : List PV) : R := loopR (f4_w1B k c14 c16 c17 c18 c19 ret0 p1 n2 p4) k (n11, l12)
theorem f4_w1_eq (k : Nat) (c14 : (Bool → R) → R) (c16 : PV → (Int → R) → R) (c17 : PV → (PV → R) → R) (c18 : PV → (PV → R) → R) (c19 : PV → (Int → Bool → R) → R) (retF : Bool → R) (p1 : PV) (n2 : Int) (p4 : PV) (n11 : Int) (l12 : List PV) : f4_w1A k c14 c16 c17 c18 c19 retF p1 n2 p4 n11 l12 = f4_w1N k c14 c16 c17 c18 c19 (fun y0 => retF y0) p1 n2 p4 n11 l12 :=
  Eq.mp (by kernel_rfl) (loop_sim (E := (f4_E k c14 c16 c17 c18 c19)) (c := f4_cw1) (K := (kont (f4_E k c14 c16 c17 c18 c19) f4_code [1, 1, 1, 1, 1, 0, 1, 0] (endK (f4_E k c14 c16 c17 c18 c19) Try.f4 [] f4_un retF))) (S := Int × (List PV)) (fun s => f4_hw1_0 p1 n2 p4 s.1 s.2) (f4_w1B k c14 c16 c17 c18 c19 (fun y0 => retF y0) p1 n2 p4) (fun NX s => by
    exact Eq.mp (by kernel_rfl) (f4_w1b0_eq k c14 c16 c17 c18 c19 retF NX p1 n2 p4 s.1 s.2)) k (n11, l12))

noncomputable def f4_e (c14 : (Bool → R) → R) (c16 : PV → (Int → R) → R) (c17 : PV → (PV → R) → R) (c18 : PV → (PV → R) → R) (c19 : PV → (Int → Bool → R) → R) (ret0 : Bool → R) (w1 : PV → Int → (List PV) → R) (p1 : PV) (n2 : Int) : R :=
  c14 fun b3 =>
  bif (!b3) then
    ret0 false
  else c17 p1 fun p4 =>
  bif ((decide ((List.length (PV.els p4) : Int) = (0 : Int))) == false) then
    bif (decide (n2 < (0 : Int))) then
      bif ((decide ((0 : Int) < (List.length (PV.els p4) : Int))) == false) then
        c18 (PV.list []) fun p5 =>
        ret0 (PV.beq p1 p5)
      else ret0 true
    else w1 p4 0 []
  else bif ((decide ((0 : Int) < (List.length (PV.els p4) : Int))) == false) then
    c18 (PV.list []) fun p18 =>
    ret0 (PV.beq p1 p18)
  else ret0 true

theorem f4_e_mem (k : Nat) (c14 : (Bool → R) → R) (c16 : PV → (Int → R) → R) (c17 : PV → (PV → R) → R) (c18 : PV → (PV → R) → R) (c19 : PV → (Int → Bool → R) → R) (retF : Bool → R) (p1 : PV) (n2 : Int) : exec (f4_E k c14 c16 c17 c18 c19) f4_code (endK (f4_E k c14 c16 c17 c18 c19) Try.f4 [] f4_un retF) ⟨[.val 24 p1, .int .i64 n2, .undef, .undef, .undef, .undef, .undef, .undef, .undef, .undef, .undef, .undef, .undef, .undef, .undef, .undef, .undef, .undef, .undef, .undef, .undef, .undef, .undef, .undef, .undef, .undef, .undef, .undef, .undef, .undef, .undef, .undef, .undef, .undef, .undef, .undef, .undef, .undef, .undef, .undef, .undef, .undef, .undef, .undef, .undef, .undef, .undef, .undef, .undef, .undef, .undef, .undef, .undef, .undef, .undef, .undef, .undef, .undef, .undef, .undef, .undef, .undef, .undef, .undef, .undef, .undef, .undef, .undef, .undef, .undef, .undef, .undef, .undef, .undef, .undef, .undef], []⟩ = f4_e c14 c16 c17 c18 c19 (fun y0 => retF y0) (fun p4 n11 l12 => f4_w1A k c14 c16 c17 c18 c19 retF p1 n2 p4 n11 l12) p1 n2 := by kernel_rfl

noncomputable def f4_N (k : Nat) (c14 : (Bool → R) → R) (c16 : PV → (Int → R) → R) (c17 : PV → (PV → R) → R) (c18 : PV → (PV → R) → R) (c19 : PV → (Int → Bool → R) → R) (ret0 : Bool → R) (p1 : PV) (n2 : Int) : R :=
  f4_e c14 c16 c17 c18 c19 ret0 (fun p4 n11 l12 => f4_w1N k c14 c16 c17 c18 c19 ret0 p1 n2 p4 n11 l12) p1 n2
theorem f4_eq (k : Nat) (c14 : (Bool → R) → R) (c16 : PV → (Int → R) → R) (c17 : PV → (PV → R) → R) (c18 : PV → (PV → R) → R) (c19 : PV → (Int → Bool → R) → R) (retF : Bool → R) (p1 : PV) (n2 : Int) : exec (f4_E k c14 c16 c17 c18 c19) f4_code (endK (f4_E k c14 c16 c17 c18 c19) Try.f4 [] f4_un retF) ⟨[.val 24 p1, .int .i64 n2, .undef, .undef, .undef, .undef, .undef, .undef, .undef, .undef, .undef, .undef, .undef, .undef, .undef, .undef, .undef, .undef, .undef, .undef, .undef, .undef, .undef, .undef, .undef, .undef, .undef, .undef, .undef, .undef, .undef, .undef, .undef, .undef, .undef, .undef, .undef, .undef, .undef, .undef, .undef, .undef, .undef, .undef, .undef, .undef, .undef, .undef, .undef, .undef, .undef, .undef, .undef, .undef, .undef, .undef, .undef, .undef, .undef, .undef, .undef, .undef, .undef, .undef, .undef, .undef, .undef, .undef, .undef, .undef, .undef, .undef, .undef, .undef, .undef, .undef], []⟩ = f4_N k c14 c16 c17 c18 c19 (fun y0 => retF y0) p1 n2 :=
  (f4_e_mem k c14 c16 c17 c18 c19 retF p1 n2).trans (by rw [show (fun p4 n11 l12 => f4_w1A k c14 c16 c17 c18 c19 retF p1 n2 p4 n11 l12) = (fun p4 n11 l12 => f4_w1N k c14 c16 c17 c18 c19 (fun y0 => retF y0) p1 n2 p4 n11 l12) from funext fun p4 => funext fun n11 => funext fun l12 => f4_w1_eq k c14 c16 c17 c18 c19 retF p1 n2 p4 n11 l12]; rfl)

noncomputable def G4 : Nat → PV → Int → (Bool → R) → R
  | 0, _, _, _ => none
  | k + 1, p1, n2, ret0 => f4_N k (G14 k) (G16 k) (G17 k) (G18 k) (G19 k) ret0 p1 n2
theorem S4 : ∀ k, Snd Try.prog 4 f4_I f4_O (fun x ret => G4 k x.1 x.2 (fun y0 => ret y0))
  | 0 => snd_none
  | k + 1 => snd_step (E := f4_E k (G14 k) (G16 k) (G17 k) (G18 k) (G19 k)) rfl laidOut noNums (orc_ok (S14 k).o f14_D_ok (orc_ok (S16 k).o f16_D_ok (orc_ok (S17 k).o f17_D_ok (orc_ok (S18 k).o f18_D_ok (orc_ok (S19 k).o f19_D_ok orc0_ok))))) (f := 4) (fn := Try.f4) (code := f4_code) Try.func4 (by kernel_rfl) (drawsOk_of laidOut (orc_ok (S14 k).o f14_D_ok (orc_ok (S16 k).o f16_D_ok (orc_ok (S17 k).o f17_D_ok (orc_ok (S18 k).o f18_D_ok (orc_ok (S19 k).o f19_D_ok orc0_ok))))) mixed (by kernel_rfl)) f4_un f4_un_ok [] (fun _ => rfl)
      (fun x ret => f4_eq k (G14 k) (G16 k) (G17 k) (G18 k) (G19 k) ret x.1 x.2)

/- (catchpole/byteset.Set).Not -/
noncomputable def f21_I : PV → List SV × Obs := fun x => ([.val 24 x], [])
noncomputable def f21_D : List SV → Obs → Option (PV)
  | [.val 24 p1], [] => some p1
  | _, _ => none
theorem f21_D_ok (args : List SV) (B : Obs) (x : PV) (h : f21_D args B = some x) : f21_I x = (args, B) := by
  unfold f21_D at h
  split at h
  · injection h with h; subst h; rfl
  · cases h
noncomputable def f21_O : PV → Out := (fun y => ([.val 24 y], []))
noncomputable def f21_un : Out → Option (PV)
  | ([.val 24 y0], []) => some y0
  | _ => none
theorem f21_un_ok (o : Out) (y : PV) (h : f21_un o = some y) : o = f21_O y := by
  unfold f21_un at h
  split at h
  · injection h with h; subst h; rfl
  · cases h
noncomputable def f21_msk : Nat → Option (List Nat) := fun key => bif key == 6 then some [1, 2, 4] else none
noncomputable def f21_C : Oracle := orc0
noncomputable def f21_E (k : Nat) : Env := { P := Try.prog, nilOwn := fun d => false, fldOwn := fun d i => false, ownPar := ownPars, ownRet := false, mask := f21_msk, fuel := k, C := f21_C }
noncomputable def f21_code : Code := Try.f21.body.getD .skip
noncomputable def f21_cw1 : Code := subC f21_code [1, 0, 1, 0, 0]
noncomputable def f21_hw1_0 (n3 : Int) (p4 : PV) : St := ⟨[.dead, .ptr 1 [], .ptr 2 [], .dead, .int .i64 n3, .dead, .dead, .dead, .dead, .dead, .dead, .dead, .dead, .dead, .dead], [(1, .box 24 (.val 24 p4)), (2, .box 24 (.val 24 (PV.agg [(PV.int 0), (PV.int 0), (PV.int 0), (PV.int 0)])))]⟩
noncomputable def f21_w1A (k : Nat) (retF : PV → R) (n3 : Int) (p4 : PV) : R := loopM (f21_E k) f21_cw1 (kont (f21_E k) f21_code [1, 0, 1, 0] (endK (f21_E k) Try.f21 [] f21_un retF)) k (f21_hw1_0 n3 p4)
noncomputable def f21_w1b0 (ret0 : PV → R) (next_w1_0 : Int → PV → R) (n3 : Int) (p4 : PV) : R :=
  bif (decide (n3 < (4 : Int))) then
    bif (true && decide ((0 : Int) ≤ n3) && decide (n3 < 4)) then
      bif (true && decide ((0 : Int) ≤ n3) && decide (n3 < 4)) then
        let p5 : PV := (PV.agg (List.set (PV.flds p4) (n3).toNat (PV.int (intBit .xor .u64 18446744073709551615 (PV.num (PV.fld p4 (n3).toNat))))))
        next_w1_0 (IntKind.wrap .i64 (n3 + (1 : Int))) p5
      else none
    else none
  else ret0 p4

theorem f21_w1b0_mem (k : Nat) (retF : PV → R) (NX_w1 : St → R) (n3 : Int) (p4 : PV) : exec (f21_E k) f21_cw1 (purgeK (f21_E k) f21_cw1 (loopK NX_w1 (kont (f21_E k) f21_code [1, 0, 1, 0] (endK (f21_E k) Try.f21 [] f21_un retF)))) (f21_hw1_0 n3 p4) = f21_w1b0 (fun y0 => retF y0) (fun n3 p4 => NX_w1 (f21_hw1_0 n3 p4)) n3 p4 := by kernel_rfl

noncomputable def f21_w1b0N (k : Nat) (ret0 : PV → R) (next_w1_0 : Int → PV → R) (n3 : Int) (p4 : PV) : R :=
  f21_w1b0 ret0 next_w1_0 n3 p4
theorem f21_w1b0_eq (k : Nat) (retF : PV → R) (NX_w1 : St → R) (n3 : Int) (p4 : PV) : exec (f21_E k) f21_cw1 (purgeK (f21_E k) f21_cw1 (loopK NX_w1 (kont (f21_E k) f21_code [1, 0, 1, 0] (endK (f21_E k) Try.f21 [] f21_un retF)))) (f21_hw1_0 n3 p4) = f21_w1b0N k (fun y0 => retF y0) (fun n3 p4 => NX_w1 (f21_hw1_0 n3 p4)) n3 p4 :=
  (f21_w1b0_mem k retF NX_w1 n3 p4)

noncomputable def f21_w1B (k : Nat) (ret0 : PV → R) (nx : Int × PV → R) : Int × PV → R := (fun s => f21_w1b0N k ret0 (fun n3 p4 => nx (n3, p4)) s.1 s.2)
noncomputable def f21_w1N (k : Nat) (ret0 : PV → R) (n3 : Int) (p4 : PV) : R := loopR (f21_w1B k ret0) k (n3, p4)
theorem f21_w1_eq (k : Nat) (retF : PV → R) (n3 : Int) (p4 : PV) : f21_w1A k retF n3 p4 = f21_w1N k (fun y0 => retF y0) n3 p4 :=
  Eq.mp (by kernel_rfl) (loop_sim (E := (f21_E k)) (c := f21_cw1) (K := (kont (f21_E k) f21_code [1, 0, 1, 0] (endK (f21_E k) Try.f21 [] f21_un retF))) (S := Int × PV) (fun s => f21_hw1_0 s.1 s.2) (f21_w1B k (fun y0 => retF y0)) (fun NX s => by
    exact Eq.mp (by kernel_rfl) (f21_w1b0_eq k retF NX s.1 s.2)) k (n3, p4))

noncomputable def f21_e (ret0 : PV → R) (w1 : Int → PV → R) (p1 : PV) : R :=
  w1 0 p1

theorem f21_e_mem (k : Nat) (retF : PV → R) (p1 : PV) : exec (f21_E k) f21_code (endK (f21_E k) Try.f21 [] f21_un retF) ⟨[.val 24 p1, .undef, .undef, .undef, .undef, .undef, .undef, .undef, .undef, .undef, .undef, .undef, .undef, .undef, .undef], []⟩ = f21_e (fun y0 => retF y0) (fun n3 p4 => f21_w1A k retF n3 p4) p1 := by kernel_rfl

noncomputable def f21_N (k : Nat) (ret0 : PV → R) (p1 : PV) : R :=
  f21_e ret0 (fun n3 p4 => f21_w1N k ret0 n3 p4) p1
theorem f21_eq (k : Nat) (retF : PV → R) (p1 : PV) : exec (f21_E k) f21_code (endK (f21_E k) Try.f21 [] f21_un retF) ⟨[.val 24 p1, .undef, .undef, .undef, .undef, .undef, .undef, .undef, .undef, .undef, .undef, .undef, .undef, .undef, .undef], []⟩ = f21_N k (fun y0 => retF y0) p1 :=
  (f21_e_mem k retF p1).trans (by rw [show (fun n3 p4 => f21_w1A k retF n3 p4) = (fun n3 p4 => f21_w1N k (fun y0 => retF y0) n3 p4) from funext fun n3 => funext fun p4 => f21_w1_eq k retF n3 p4]; rfl)

noncomputable def G21 : Nat → PV → (PV → R) → R
  | 0, _, _ => none
  | k + 1, p1, ret0 => f21_N k  ret0 p1
theorem S21 : ∀ k, Snd Try.prog 21 f21_I f21_O (fun x ret => G21 k x (fun y0 => ret y0))
  | 0 => snd_none
  | k + 1 => snd_step (E := f21_E k ) rfl laidOut noNums orc0_ok (f := 21) (fn := Try.f21) (code := f21_code) Try.func21 (by kernel_rfl) (drawsOk_of laidOut orc0_ok mixed (by kernel_rfl)) f21_un f21_un_ok [] (fun _ => rfl)
      (fun x ret => f21_eq k  ret x)

/- catchpole/byteset.All -/
noncomputable def f20_I : Unit → List SV × Obs := fun x => ([], [])
noncomputable def f20_D : List SV → Obs → Option (Unit)
  | [], [] => some ()
  | _, _ => none
theorem f20_D_ok (args : List SV) (B : Obs) (x : Unit) (h : f20_D args B = some x) : f20_I x = (args, B) := by
  unfold f20_D at h
  split at h
  · injection h with h; subst h; rfl
  · cases h
noncomputable def f20_O : PV → Out := (fun y => ([.val 24 y], []))
noncomputable def f20_un : Out → Option (PV)
  | ([.val 24 y0], []) => some y0
  | _ => none
theorem f20_un_ok (o : Out) (y : PV) (h : f20_un o = some y) : o = f20_O y := by
  unfold f20_un at h
  split at h
  · injection h with h; subst h; rfl
  · cases h
noncomputable def f20_msk : Nat → Option (List Nat) := fun key =>  none
noncomputable def f20_C (c21 : PV → (PV → R) → R) : Oracle := orc 21 f21_D f21_O (fun x ret => c21 x (fun y0 => ret y0)) <| orc0
noncomputable def f20_E (k : Nat) (c21 : PV → (PV → R) → R) : Env := { P := Try.prog, nilOwn := fun d => false, fldOwn := fun d i => false, ownPar := ownPars, ownRet := false, mask := f20_msk, fuel := k, C := f20_C c21 }
noncomputable def f20_code : Code := Try.f20.body.getD .skip
noncomputable def f20_e (c21 : PV → (PV → R) → R) (ret0 : PV → R) : R :=
  c21 (PV.agg [(PV.int 0), (PV.int 0), (PV.int 0), (PV.int 0)]) fun p1 =>
  ret0 p1

theorem f20_e_mem (k : Nat) (c21 : PV → (PV → R) → R) (retF : PV → R) : exec (f20_E k c21) f20_code (endK (f20_E k c21) Try.f20 [] f20_un retF) ⟨[.undef, .undef, .undef], []⟩ = f20_e c21 (fun y0 => retF y0) := by kernel_rfl

noncomputable def f20_N (k : Nat) (c21 : PV → (PV → R) → R) (ret0 : PV → R) : R :=
  f20_e c21 ret0
theorem f20_eq (k : Nat) (c21 : PV → (PV → R) → R) (retF : PV → R) : exec (f20_E k c21) f20_code (endK (f20_E k c21) Try.f20 [] f20_un retF) ⟨[.undef, .undef, .undef], []⟩ = f20_N k c21 (fun y0 => retF y0) :=
  (f20_e_mem k c21 retF)

noncomputable def G20 : Nat → (PV → R) → R
  | 0, _ => none
  | k + 1, ret0 => f20_N k (G21 k) ret0 
theorem S20 : ∀ k, Snd Try.prog 20 f20_I f20_O (fun x ret => G20 k (fun y0 => ret y0))
  | 0 => snd_none
  | k + 1 => snd_step (E := f20_E k (G21 k)) rfl laidOut noNums (orc_ok (S21 k).o f21_D_ok orc0_ok) (f := 20) (fn := Try.f20) (code := f20_code) Try.func20 (by kernel_rfl) (drawsOk_of laidOut (orc_ok (S21 k).o f21_D_ok orc0_ok) mixed (by kernel_rfl)) f20_un f20_un_ok [] (fun _ => rfl)
      (fun x ret => f20_eq k (G21 k) ret)

/- internal/bytealg.Compare -/
noncomputable def f79_I : PV × PV → List SV × Obs := fun x => ([.val 32 x.1, .val 32 x.2], [])
noncomputable def f79_D : List SV → Obs → Option (PV × PV)
  | [.val 32 p1, .val 32 p2], [] => some (p1, p2)
  | _, _ => none
theorem f79_D_ok (args : List SV) (B : Obs) (x : PV × PV) (h : f79_D args B = some x) : f79_I x = (args, B) := by
  unfold f79_D at h
  split at h
  · injection h with h; subst h; rfl
  · cases h
noncomputable def f79_O : Int → Out := (fun y => ([.int .i64 y], []))
noncomputable def f79_un : Out → Option (Int)
  | ([.int .i64 y0], []) => some y0
  | _ => none
theorem f79_un_ok (o : Out) (y : Int) (h : f79_un o = some y) : o = f79_O y := by
  unfold f79_un at h
  split at h
  · injection h with h; subst h; rfl
  · cases h

noncomputable def G79 : Nat → PV → PV → (Int → R) → R
  | _, p, q, ret0 => ret0 (lexC ((PV.els p).map PV.num) ((PV.els q).map PV.num))
theorem S79 : ∀ k, SndO Try.prog 79 f79_I f79_O (fun x ret => G79 k x.1 x.2 (fun y0 => ret y0)) := fun k => cmp_bytes_o Try.func79 (by kernel_rfl) (by kernel_rfl) (by kernel_rfl) (by kernel_rfl) Try.underlying32 Try.underlying5 (by kernel_rfl)

/- bytes.Compare -/
noncomputable def f64_I : PV × PV → List SV × Obs := fun x => ([.val 32 x.1, .val 32 x.2], [])
noncomputable def f64_D : List SV → Obs → Option (PV × PV)
  | [.val 32 p1, .val 32 p2], [] => some (p1, p2)
  | _, _ => none
theorem f64_D_ok (args : List SV) (B : Obs) (x : PV × PV) (h : f64_D args B = some x) : f64_I x = (args, B) := by
  unfold f64_D at h
  split at h
  · injection h with h; subst h; rfl
  · cases h
noncomputable def f64_O : Int → Out := (fun y => ([.int .i64 y], []))
noncomputable def f64_un : Out → Option (Int)
  | ([.int .i64 y0], []) => some y0
  | _ => none
theorem f64_un_ok (o : Out) (y : Int) (h : f64_un o = some y) : o = f64_O y := by
  unfold f64_un at h
  split at h
  · injection h with h; subst h; rfl
  · cases h
noncomputable def f64_msk : Nat → Option (List Nat) := fun key =>  none
noncomputable def f64_C (c79 : PV → PV → (Int → R) → R) : Oracle := orc 79 f79_D f79_O (fun x ret => c79 x.1 x.2 (fun y0 => ret y0)) <| orc0
noncomputable def f64_E (k : Nat) (c79 : PV → PV → (Int → R) → R) : Env := { P := Try.prog, nilOwn := fun d => false, fldOwn := fun d i => false, ownPar := ownPars, ownRet := false, mask := f64_msk, fuel := k, C := f64_C c79 }
noncomputable def f64_code : Code := Try.f64.body.getD .skip
noncomputable def f64_e (c79 : PV → PV → (Int → R) → R) (ret0 : Int → R) (p1 : PV) (p2 : PV) : R :=
  c79 p1 p2 fun n3 =>
  ret0 n3

theorem f64_e_mem (k : Nat) (c79 : PV → PV → (Int → R) → R) (retF : Int → R) (p1 : PV) (p2 : PV) : exec (f64_E k c79) f64_code (endK (f64_E k c79) Try.f64 [] f64_un retF) ⟨[.val 32 p1, .val 32 p2, .undef, .undef, .undef, .undef, .undef, .undef], []⟩ = f64_e c79 (fun y0 => retF y0) p1 p2 := by kernel_rfl

noncomputable def f64_N (k : Nat) (c79 : PV → PV → (Int → R) → R) (ret0 : Int → R) (p1 : PV) (p2 : PV) : R :=
  f64_e c79 ret0 p1 p2
theorem f64_eq (k : Nat) (c79 : PV → PV → (Int → R) → R) (retF : Int → R) (p1 : PV) (p2 : PV) : exec (f64_E k c79) f64_code (endK (f64_E k c79) Try.f64 [] f64_un retF) ⟨[.val 32 p1, .val 32 p2, .undef, .undef, .undef, .undef, .undef, .undef], []⟩ = f64_N k c79 (fun y0 => retF y0) p1 p2 :=
  (f64_e_mem k c79 retF p1 p2)

noncomputable def G64 : Nat → PV → PV → (Int → R) → R
  | 0, _, _, _ => none
  | k + 1, p1, p2, ret0 => f64_N k (G79 k) ret0 p1 p2
theorem S64 : ∀ k, Snd Try.prog 64 f64_I f64_O (fun x ret => G64 k x.1 x.2 (fun y0 => ret y0))
  | 0 => snd_none
  | k + 1 => snd_step (E := f64_E k (G79 k)) rfl laidOut noNums (orc_ok (S79 k).o f79_D_ok orc0_ok) (f := 64) (fn := Try.f64) (code := f64_code) Try.func64 (by kernel_rfl) (drawsOk_of laidOut (orc_ok (S79 k).o f79_D_ok orc0_ok) mixed (by kernel_rfl)) f64_un f64_un_ok [] (fun _ => rfl)
      (fun x ret => f64_eq k (G79 k) ret x.1 x.2)

/- (catchpole/byteset.Set).Cmp -/
noncomputable def f24_I : PV × PV → List SV × Obs := fun x => ([.val 24 x.1, .val 24 x.2], [])
noncomputable def f24_D : List SV → Obs → Option (PV × PV)
  | [.val 24 p1, .val 24 p2], [] => some (p1, p2)
  | _, _ => none
theorem f24_D_ok (args : List SV) (B : Obs) (x : PV × PV) (h : f24_D args B = some x) : f24_I x = (args, B) := by
  unfold f24_D at h
  split at h
  · injection h with h; subst h; rfl
  · cases h
noncomputable def f24_O : Int → Out := (fun y => ([.int .i64 y], []))
noncomputable def f24_un : Out → Option (Int)
  | ([.int .i64 y0], []) => some y0
  | _ => none
theorem f24_un_ok (o : Out) (y : Int) (h : f24_un o = some y) : o = f24_O y := by
  unfold f24_un at h
  split at h
  · injection h with h; subst h; rfl
  · cases h
noncomputable def f24_msk : Nat → Option (List Nat) := fun key =>  none
noncomputable def f24_C (c17 : PV → (PV → R) → R) (c64 : PV → PV → (Int → R) → R) : Oracle := orc 17 f17_D f17_O (fun x ret => c17 x (fun y0 => ret y0)) <| orc 64 f64_D f64_O (fun x ret => c64 x.1 x.2 (fun y0 => ret y0)) <| orc0
noncomputable def f24_E (k : Nat) (c17 : PV → (PV → R) → R) (c64 : PV → PV → (Int → R) → R) : Env := { P := Try.prog, nilOwn := fun d => false, fldOwn := fun d i => false, ownPar := ownPars, ownRet := false, mask := f24_msk, fuel := k, C := f24_C c17 c64 }
noncomputable def f24_code : Code := Try.f24.body.getD .skip
noncomputable def f24_e (c17 : PV → (PV → R) → R) (c64 : PV → PV → (Int → R) → R) (ret0 : Int → R) (p1 : PV) (p2 : PV) : R :=
  c17 p1 fun p3 =>
  c17 p2 fun p4 =>
  c64 p3 p4 fun n5 =>
  ret0 n5

theorem f24_e_mem (k : Nat) (c17 : PV → (PV → R) → R) (c64 : PV → PV → (Int → R) → R) (retF : Int → R) (p1 : PV) (p2 : PV) : exec (f24_E k c17 c64) f24_code (endK (f24_E k c17 c64) Try.f24 [] f24_un retF) ⟨[.val 24 p1, .val 24 p2, .undef, .undef, .undef, .undef, .undef, .undef, .undef, .undef], []⟩ = f24_e c17 c64 (fun y0 => retF y0) p1 p2 := by kernel_rfl

noncomputable def f24_N (k : Nat) (c17 : PV → (PV → R) → R) (c64 : PV → PV → (Int → R) → R) (ret0 : Int → R) (p1 : PV) (p2 : PV) : R :=
  f24_e c17 c64 ret0 p1 p2
theorem f24_eq (k : Nat) (c17 : PV → (PV → R) → R) (c64 : PV → PV → (Int → R) → R) (retF : Int → R) (p1 : PV) (p2 : PV) : exec (f24_E k c17 c64) f24_code (endK (f24_E k c17 c64) Try.f24 [] f24_un retF) ⟨[.val 24 p1, .val 24 p2, .undef, .undef, .undef, .undef, .undef, .undef, .undef, .undef], []⟩ = f24_N k c17 c64 (fun y0 => retF y0) p1 p2 :=
  (f24_e_mem k c17 c64 retF p1 p2)

noncomputable def G24 : Nat → PV → PV → (Int → R) → R
  | 0, _, _, _ => none
  | k + 1, p1, p2, ret0 => f24_N k (G17 k) (G64 k) ret0 p1 p2
theorem S24 : ∀ k, Snd Try.prog 24 f24_I f24_O (fun x ret => G24 k x.1 x.2 (fun y0 => ret y0))
  | 0 => snd_none
  | k + 1 => snd_step (E := f24_E k (G17 k) (G64 k)) rfl laidOut noNums (orc_ok (S17 k).o f17_D_ok (orc_ok (S64 k).o f64_D_ok orc0_ok)) (f := 24) (fn := Try.f24) (code := f24_code) Try.func24 (by kernel_rfl) (drawsOk_of laidOut (orc_ok (S17 k).o f17_D_ok (orc_ok (S64 k).o f64_D_ok orc0_ok)) mixed (by kernel_rfl)) f24_un f24_un_ok [] (fun _ => rfl)
      (fun x ret => f24_eq k (G17 k) (G64 k) ret x.1 x.2)

/- catchpole/catchpolelaw1.BytesetKnown -/
noncomputable def f5_I : Unit → List SV × Obs := fun x => ([], [])
noncomputable def f5_D : List SV → Obs → Option (Unit)
  | [], [] => some ()
  | _, _ => none
theorem f5_D_ok (args : List SV) (B : Obs) (x : Unit) (h : f5_D args B = some x) : f5_I x = (args, B) := by
  unfold f5_D at h
  split at h
  · injection h with h; subst h; rfl
  · cases h
noncomputable def f5_O : Bool → Out := (fun y => ([.bool y], []))
noncomputable def f5_un : Out → Option (Bool)
  | ([.bool y0], []) => some y0
  | _ => none
theorem f5_un_ok (o : Out) (y : Bool) (h : f5_un o = some y) : o = f5_O y := by
  unfold f5_un at h
  split at h
  · injection h with h; subst h; rfl
  · cases h
noncomputable def f5_msk : Nat → Option (List Nat) := fun key =>  none
noncomputable def f5_C (c14 : (Bool → R) → R) (c15 : PV → (PV → R) → R) (c16 : PV → (Int → R) → R) (c17 : PV → (PV → R) → R) (c18 : PV → (PV → R) → R) (c19 : PV → (Int → Bool → R) → R) (c20 : (PV → R) → R) (c21 : PV → (PV → R) → R) (c22 : Int → Int → (PV → R) → R) (c23 : PV → Int → (Bool → R) → R) (c24 : PV → PV → (Int → R) → R) : Oracle := orc 14 f14_D f14_O (fun x ret => c14 (fun y0 => ret y0)) <| orc 15 f15_D f15_O (fun x ret => c15 x (fun y0 => ret y0)) <| orc 16 f16_D f16_O (fun x ret => c16 x (fun y0 => ret y0)) <| orc 17 f17_D f17_O (fun x ret => c17 x (fun y0 => ret y0)) <| orc 18 f18_D f18_O (fun x ret => c18 x (fun y0 => ret y0)) <| orc 19 f19_D f19_O (fun x ret => c19 x (fun y0 y1 => ret (y0, y1))) <| orc 20 f20_D f20_O (fun x ret => c20 (fun y0 => ret y0)) <| orc 21 f21_D f21_O (fun x ret => c21 x (fun y0 => ret y0)) <| orc 22 f22_D f22_O (fun x ret => c22 x.1 x.2 (fun y0 => ret y0)) <| orc 23 f23_D f23_O (fun x ret => c23 x.1 x.2 (fun y0 => ret y0)) <| orc 24 f24_D f24_O (fun x ret => c24 x.1 x.2 (fun y0 => ret y0)) <| orc0
noncomputable def f5_E (k : Nat) (c14 : (Bool → R) → R) (c15 : PV → (PV → R) → R) (c16 : PV → (Int → R) → R) (c17 : PV → (PV → R) → R) (c18 : PV → (PV → R) → R) (c19 : PV → (Int → Bool → R) → R) (c20 : (PV → R) → R) (c21 : PV → (PV → R) → R) (c22 : Int → Int → (PV → R) → R) (c23 : PV → Int → (Bool → R) → R) (c24 : PV → PV → (Int → R) → R) : Env := { P := Try.prog, nilOwn := fun d => false, fldOwn := fun d i => false, ownPar := ownPars, ownRet := false, mask := f5_msk, fuel := k, C := f5_C c14 c15 c16 c17 c18 c19 c20 c21 c22 c23 c24 }
noncomputable def f5_code : Code := Try.f5.body.getD .skip
noncomputable def f5_e (c14 : (Bool → R) → R) (c15 : PV → (PV → R) → R) (c16 : PV → (Int → R) → R) (c17 : PV → (PV → R) → R) (c18 : PV → (PV → R) → R) (c19 : PV → (Int → Bool → R) → R) (c20 : (PV → R) → R) (c21 : PV → (PV → R) → R) (c22 : Int → Int → (PV → R) → R) (c23 : PV → Int → (Bool → R) → R) (c24 : PV → PV → (Int → R) → R) (ret0 : Bool → R) : R :=
  c14 fun b1 =>
  bif (!b1) then
    ret0 false
  else c18 (PV.list []) fun p2 =>
  c20 fun p3 =>
  c19 p2 fun n4 b5 =>
  c18 (PV.list [(PV.int 255), (PV.int 64), (PV.int 0)]) fun p6 =>
  c19 p6 fun n7 b8 =>
  c18 (PV.list [(PV.int 0), (PV.int 1), (PV.int 255)]) fun p9 =>
  c15 p9 fun p10 =>
  c18 (PV.list [(PV.int 9), (PV.int 3), (PV.int 9)]) fun p11 =>
  c17 p11 fun p12 =>
  bif ((!b5) == true) then
    bif (b8 == true) then
      bif ((decide (n7 = (0 : Int))) == true) then
        bif ((PV.beq p2 (PV.agg [(PV.int 0), (PV.int 0), (PV.int 0), (PV.int 0)])) == true) then
          c16 p3 fun n13 =>
          bif ((decide (n13 = (256 : Int))) == true) then
            c21 p3 fun p14 =>
            bif ((PV.beq p14 p2) == true) then
              c21 p2 fun p15 =>
              bif ((PV.beq p15 p3) == true) then
                c15 p3 fun p16 =>
                bif ((decide ((List.length (PV.els p16) : Int) = (1 : Int))) == true) then
                  c15 p2 fun p17 =>
                  bif ((decide ((List.length (PV.els p17) : Int) = (0 : Int))) == true) then
                    bif ((decide ((List.length (PV.els p10) : Int) = (2 : Int))) == true) then
                      bif (true && decide ((0 : Int) ≤ (1 : Int)) && decide ((1 : Int) < (List.length (PV.els p10) : Int))) then
                        bif ((PV.beq (List.getD (PV.els p10) ((1 : Int)).toNat PV.nil) (PV.agg [(PV.int 255), (PV.int 255)])) == true) then
                          c22 99 97 fun p18 =>
                          bif ((PV.beq p18 p2) == true) then
                            c22 0 255 fun p19 =>
                            bif ((PV.beq p19 p3) == true) then
                              bif ((decide ((List.length (PV.els p12) : Int) = (2 : Int))) == true) then
                                bif (true && decide ((0 : Int) ≤ (0 : Int)) && decide ((0 : Int) < (List.length (PV.els p12) : Int))) then
                                  bif ((decide ((PV.num (List.getD (PV.els p12) ((0 : Int)).toNat PV.nil)) = (3 : Int))) == true) then
                                    c23 p3 255 fun b20 =>
                                    bif (b20 == true) then
                                      c18 (PV.list [(PV.int 64)]) fun p21 =>
                                      bif ((decide ((PV.num (PV.fld p21 1)) = (1 : Int))) == true) then
                                        c18 (PV.list [(PV.int 0)]) fun p22 =>
                                        c24 p2 p22 fun n23 =>
                                        bif ((decide (n23 = (-1 : Int))) == true) then
                                          c18 (PV.list [(PV.int 1)]) fun p24 =>
                                          c18 (PV.list [(PV.int 0), (PV.int 200)]) fun p25 =>
                                          c24 p24 p25 fun n26 =>
                                          bif ((decide (n26 = (1 : Int))) == true) then
                                            c24 p3 p3 fun n27 =>
                                            ret0 (decide (n27 = (0 : Int)))
                                          else ret0 false
                                        else ret0 false
                                      else ret0 false
                                    else ret0 false
                                  else ret0 false
                                else none
                              else ret0 false
                            else ret0 false
                          else ret0 false
                        else ret0 false
                      else none
                    else ret0 false
                  else ret0 false
                else ret0 false
              else ret0 false
            else ret0 false
          else ret0 false
        else ret0 false
      else ret0 false
    else ret0 false
  else ret0 false

theorem f5_e_mem (k : Nat) (c14 : (Bool → R) → R) (c15 : PV → (PV → R) → R) (c16 : PV → (Int → R) → R) (c17 : PV → (PV → R) → R) (c18 : PV → (PV → R) → R) (c19 : PV → (Int → Bool → R) → R) (c20 : (PV → R) → R) (c21 : PV → (PV → R) → R) (c22 : Int → Int → (PV → R) → R) (c23 : PV → Int → (Bool → R) → R) (c24 : PV → PV → (Int → R) → R) (retF : Bool → R) : exec (f5_E k c14 c15 c16 c17 c18 c19 c20 c21 c22 c23 c24) f5_code (endK (f5_E k c14 c15 c16 c17 c18 c19 c20 c21 c22 c23 c24) Try.f5 [] f5_un retF) ⟨[.undef, .undef, .undef, .undef, .undef, .undef, .undef, .undef, .undef, .undef, .undef, .undef, .undef, .undef, .undef, .undef, .undef, .undef, .undef, .undef, .undef, .undef, .undef, .undef, .undef, .undef, .undef, .undef, .undef, .undef, .undef, .undef, .undef, .undef, .undef, .undef, .undef, .undef, .undef, .undef, .undef, .undef, .undef, .undef, .undef, .undef, .undef, .undef, .undef, .undef, .undef, .undef, .undef, .undef, .undef, .undef, .undef, .undef, .undef, .undef, .undef, .undef, .undef, .undef, .undef, .undef, .undef, .undef, .undef, .undef, .undef, .undef, .undef, .undef, .undef, .undef, .undef, .undef, .undef, .undef, .undef, .undef, .undef, .undef, .undef, .undef, .undef, .undef, .undef, .undef, .undef, .undef, .undef, .undef, .undef, .undef, .undef, .undef, .undef, .undef, .undef, .undef, .undef, .undef, .undef, .undef, .undef, .undef, .undef, .undef, .undef, .undef, .undef, .undef, .undef, .undef, .undef, .undef, .undef, .undef, .undef, .undef, .undef, .undef, .undef, .undef, .undef, .undef, .undef, .undef, .undef, .undef, .undef, .undef, .undef, .undef, .undef], []⟩ = f5_e c14 c15 c16 c17 c18 c19 c20 c21 c22 c23 c24 (fun y0 => retF y0) := by kernel_rfl

noncomputable def f5_N (k : Nat) (c14 : (Bool → R) → R) (c15 : PV → (PV → R) → R) (c16 : PV → (Int → R) → R) (c17 : PV → (PV → R) → R) (c18 : PV → (PV → R) → R) (c19 : PV → (Int → Bool → R) → R) (c20 : (PV → R) → R) (c21 : PV → (PV → R) → R) (c22 : Int → Int → (PV → R) → R) (c23 : PV → Int → (Bool → R) → R) (c24 : PV → PV → (Int → R) → R) (ret0 : Bool → R) : R :=
  f5_e c14 c15 c16 c17 c18 c19 c20 c21 c22 c23 c24 ret0
theorem f5_eq (k : Nat) (c14 : (Bool → R) → R) (c15 : PV → (PV → R) → R) (c16 : PV → (Int → R) → R) (c17 : PV → (PV → R) → R) (c18 : PV → (PV → R) → R) (c19 : PV → (Int → Bool → R) → R) (c20 : (PV → R) → R) (c21 : PV → (PV → R) → R) (c22 : Int → Int → (PV → R) → R) (c23 : PV → Int → (Bool → R) → R) (c24 : PV → PV → (Int → R) → R) (retF : Bool → R) : exec (f5_E k c14 c15 c16 c17 c18 c19 c20 c21 c22 c23 c24) f5_code (endK (f5_E k c14 c15 c16 c17 c18 c19 c20 c21 c22 c23 c24) Try.f5 [] f5_un retF) ⟨[.undef, .undef, .undef, .undef, .undef, .undef, .undef, .undef, .undef, .undef, .undef, .undef, .undef, .undef, .undef, .undef, .undef, .undef, .undef, .undef, .undef, .undef, .undef, .undef, .undef, .undef, .undef, .undef, .undef, .undef, .undef, .undef, .undef, .undef, .undef, .undef, .undef, .undef, .undef, .undef, .undef, .undef, .undef, .undef, .undef, .undef, .undef, .undef, .undef, .undef, .undef, .undef, .undef, .undef, .undef, .undef, .undef, .undef, .undef, .undef, .undef, .undef, .undef, .undef, .undef, .undef, .undef, .undef, .undef, .undef, .undef, .undef, .undef, .undef, .undef, .undef, .undef, .undef, .undef, .undef, .undef, .undef, .undef, .undef, .undef, .undef, .undef, .undef, .undef, .undef, .undef, .undef, .undef, .undef, .undef, .undef, .undef, .undef, .undef, .undef, .undef, .undef, .undef, .undef, .undef, .undef, .undef, .undef, .undef, .undef, .undef, .undef, .undef, .undef, .undef, .undef, .undef, .undef, .undef, .undef, .undef, .undef, .undef, .undef, .undef, .undef, .undef, .undef, .undef, .undef, .undef, .undef, .undef, .undef, .undef, .undef, .undef], []⟩ = f5_N k c14 c15 c16 c17 c18 c19 c20 c21 c22 c23 c24 (fun y0 => retF y0) :=
  (f5_e_mem k c14 c15 c16 c17 c18 c19 c20 c21 c22 c23 c24 retF)

noncomputable def G5 : Nat → (Bool → R) → R
  | 0, _ => none
  | k + 1, ret0 => f5_N k (G14 k) (G15 k) (G16 k) (G17 k) (G18 k) (G19 k) (G20 k) (G21 k) (G22 k) (G23 k) (G24 k) ret0 
theorem S5 : ∀ k, Snd Try.prog 5 f5_I f5_O (fun x ret => G5 k (fun y0 => ret y0))
  | 0 => snd_none
  | k + 1 => snd_step (E := f5_E k (G14 k) (G15 k) (G16 k) (G17 k) (G18 k) (G19 k) (G20 k) (G21 k) (G22 k) (G23 k) (G24 k)) rfl laidOut noNums (orc_ok (S14 k).o f14_D_ok (orc_ok (S15 k).o f15_D_ok (orc_ok (S16 k).o f16_D_ok (orc_ok (S17 k).o f17_D_ok (orc_ok (S18 k).o f18_D_ok (orc_ok (S19 k).o f19_D_ok (orc_ok (S20 k).o f20_D_ok (orc_ok (S21 k).o f21_D_ok (orc_ok (S22 k).o f22_D_ok (orc_ok (S23 k).o f23_D_ok (orc_ok (S24 k).o f24_D_ok orc0_ok))))))))))) (f := 5) (fn := Try.f5) (code := f5_code) Try.func5 (by kernel_rfl) (drawsOk_of laidOut (orc_ok (S14 k).o f14_D_ok (orc_ok (S15 k).o f15_D_ok (orc_ok (S16 k).o f16_D_ok (orc_ok (S17 k).o f17_D_ok (orc_ok (S18 k).o f18_D_ok (orc_ok (S19 k).o f19_D_ok (orc_ok (S20 k).o f20_D_ok (orc_ok (S21 k).o f21_D_ok (orc_ok (S22 k).o f22_D_ok (orc_ok (S23 k).o f23_D_ok (orc_ok (S24 k).o f24_D_ok orc0_ok))))))))))) mixed (by kernel_rfl)) f5_un f5_un_ok [] (fun _ => rfl)
      (fun x ret => f5_eq k (G14 k) (G15 k) (G16 k) (G17 k) (G18 k) (G19 k) (G20 k) (G21 k) (G22 k) (G23 k) (G24 k) ret)

/- (catchpole/byteset.Set).Or -/
noncomputable def f25_I : PV × PV → List SV × Obs := fun x => ([.val 24 x.1, .val 24 x.2], [])
noncomputable def f25_D : List SV → Obs → Option (PV × PV)
  | [.val 24 p1, .val 24 p2], [] => some (p1, p2)
  | _, _ => none
theorem f25_D_ok (args : List SV) (B : Obs) (x : PV × PV) (h : f25_D args B = some x) : f25_I x = (args, B) := by
  unfold f25_D at h
  split at h
  · injection h with h; subst h; rfl
  · cases h
noncomputable def f25_O : PV → Out := (fun y => ([.val 24 y], []))
noncomputable def f25_un : Out → Option (PV)
  | ([.val 24 y0], []) => some y0
  | _ => none
theorem f25_un_ok (o : Out) (y : PV) (h : f25_un o = some y) : o = f25_O y := by
  unfold f25_un at h
  split at h
  · injection h with h; subst h; rfl
  · cases h
noncomputable def f25_msk : Nat → Option (List Nat) := fun key => bif key == 6 then some [2, 3, 4, 6] else none
noncomputable def f25_C : Oracle := orc0
noncomputable def f25_E (k : Nat) : Env := { P := Try.prog, nilOwn := fun d => false, fldOwn := fun d i => false, ownPar := ownPars, ownRet := false, mask := f25_msk, fuel := k, C := f25_C }
noncomputable def f25_code : Code := Try.f25.body.getD .skip
noncomputable def f25_cw1 : Code := subC f25_code [1, 0, 1, 0, 0]
noncomputable def f25_hw1_0 (p2 : PV) (n4 : Int) (p5 : PV) : St := ⟨[.dead, .dead, .ptr 2 [], .ptr 3 [], .ptr 4 [], .dead, .int .i64 n4, .dead, .dead, .dead, .dead, .dead, .dead, .dead, .dead, .dead, .dead, .dead, .dead], [(2, .box 24 (.val 24 p5)), (3, .box 24 (.val 24 p2)), (4, .box 24 (.val 24 (PV.agg [(PV.int 0), (PV.int 0), (PV.int 0), (PV.int 0)])))]⟩
noncomputable def f25_w1A (k : Nat) (retF : PV → R) (p2 : PV) (n4 : Int) (p5 : PV) : R := loopM (f25_E k) f25_cw1 (kont (f25_E k) f25_code [1, 0, 1, 0] (endK (f25_E k) Try.f25 [] f25_un retF)) k (f25_hw1_0 p2 n4 p5)
noncomputable def f25_w1b0 (ret0 : PV → R) (next_w1_0 : Int → PV → R) (p2 : PV) (n4 : Int) (p5 : PV) : R :=
  bif (decide (n4 < (4 : Int))) then
    bif (true && decide ((0 : Int) ≤ n4) && decide (n4 < 4)) then
      bif (true && decide ((0 : Int) ≤ n4) && decide (n4 < 4)) then
        bif (true && decide ((0 : Int) ≤ n4) && decide (n4 < 4)) then
          let p6 : PV := (PV.agg (List.set (PV.flds p5) (n4).toNat (PV.int (intBit .or .u64 (PV.num (PV.fld p5 (n4).toNat)) (PV.num (PV.fld p2 (n4).toNat))))))
          next_w1_0 (IntKind.wrap .i64 (n4 + (1 : Int))) p6
        else none
      else none
    else none
  else ret0 p5

theorem f25_w1b0_mem (k : Nat) (retF : PV → R) (NX_w1 : St → R) (p2 : PV) (n4 : Int) (p5 : PV) : exec (f25_E k) f25_cw1 (purgeK (f25_E k) f25_cw1 (loopK NX_w1 (kont (f25_E k) f25_code [1, 0, 1, 0] (endK (f25_E k) Try.f25 [] f25_un retF)))) (f25_hw1_0 p2 n4 p5) = f25_w1b0 (fun y0 => retF y0) (fun n4 p5 => NX_w1 (f25_hw1_0 p2 n4 p5)) p2 n4 p5 := by kernel_rfl

noncomputable def f25_w1b0N (k : Nat) (ret0 : PV → R) (next_w1_0 : Int → PV → R) (p2 : PV) (n4 : Int) (p5 : PV) : R :=
  f25_w1b0 ret0 next_w1_0 p2 n4 p5
theorem f25_w1b0_eq (k : Nat) (retF : PV → R) (NX_w1 : St → R) (p2 : PV) (n4 : Int) (p5 : PV) : exec (f25_E k) f25_cw1 (purgeK (f25_E k) f25_cw1 (loopK NX_w1 (kont (f25_E k) f25_code [1, 0, 1, 0] (endK (f25_E k) Try.f25 [] f25_un retF)))) (f25_hw1_0 p2 n4 p5) = f25_w1b0N k (fun y0 => retF y0) (fun n4 p5 => NX_w1 (f25_hw1_0 p2 n4 p5)) p2 n4 p5 :=
  (f25_w1b0_mem k retF NX_w1 p2 n4 p5)

noncomputable def f25_w1B (k : Nat) (ret0 : PV → R) (p2 : PV) (nx : Int × PV → R) : Int × PV → R := (fun s => f25_w1b0N k ret0 (fun n4 p5 => nx (n4, p5)) p2 s.1 s.2)
noncomputable def f25_w1N (k : Nat) (ret0 : PV → R) (p2 : PV) (n4 : Int) (p5 : PV) : R := loopR (f25_w1B k ret0 p2) k (n4, p5)
theorem f25_w1_eq (k : Nat) (retF : PV → R) (p2 : PV) (n4 : Int) (p5 : PV) : f25_w1A k retF p2 n4 p5 = f25_w1N k (fun y0 => retF y0) p2 n4 p5 :=
  Eq.mp (by kernel_rfl) (loop_sim (E := (f25_E k)) (c := f25_cw1) (K := (kont (f25_E k) f25_code [1, 0, 1, 0] (endK (f25_E k) Try.f25 [] f25_un retF))) (S := Int × PV) (fun s => f25_hw1_0 p2 s.1 s.2) (f25_w1B k (fun y0 => retF y0) p2) (fun NX s => by
    exact Eq.mp (by kernel_rfl) (f25_w1b0_eq k retF NX p2 s.1 s.2)) k (n4, p5))

noncomputable def f25_e (ret0 : PV → R) (w1 : Int → PV → R) (p1 : PV) (p2 : PV) : R :=
  w1 0 p1

theorem f25_e_mem (k : Nat) (retF : PV → R) (p1 : PV) (p2 : PV) : exec (f25_E k) f25_code (endK (f25_E k) Try.f25 [] f25_un retF) ⟨[.val 24 p1, .val 24 p2, .undef, .undef, .undef, .undef, .undef, .undef, .undef, .undef, .undef, .undef, .undef, .undef, .undef, .undef, .undef, .undef, .undef], []⟩ = f25_e (fun y0 => retF y0) (fun n4 p5 => f25_w1A k retF p2 n4 p5) p1 p2 := by kernel_rfl

noncomputable def f25_N (k : Nat) (ret0 : PV → R) (p1 : PV) (p2 : PV) : R :=
  f25_e ret0 (fun n4 p5 => f25_w1N k ret0 p2 n4 p5) p1 p2
theorem f25_eq (k : Nat) (retF : PV → R) (p1 : PV) (p2 : PV) : exec (f25_E k) f25_code (endK (f25_E k) Try.f25 [] f25_un retF) ⟨[.val 24 p1, .val 24 p2, .undef, .undef, .undef, .undef, .undef, .undef, .undef, .undef, .undef, .undef, .undef, .undef, .undef, .undef, .undef, .undef, .undef], []⟩ = f25_N k (fun y0 => retF y0) p1 p2 :=
  (f25_e_mem k retF p1 p2).trans (by rw [show (fun n4 p5 => f25_w1A k retF p2 n4 p5) = (fun n4 p5 => f25_w1N k (fun y0 => retF y0) p2 n4 p5) from funext fun n4 => funext fun p5 => f25_w1_eq k retF p2 n4 p5]; rfl)

noncomputable def G25 : Nat → PV → PV → (PV → R) → R
  | 0, _, _, _ => none
  | k + 1, p1, p2, ret0 => f25_N k  ret0 p1 p2
theorem S25 : ∀ k, Snd Try.prog 25 f25_I f25_O (fun x ret => G25 k x.1 x.2 (fun y0 => ret y0))
  | 0 => snd_none
  | k + 1 => snd_step (E := f25_E k ) rfl laidOut noNums orc0_ok (f := 25) (fn := Try.f25) (code := f25_code) Try.func25 (by kernel_rfl) (drawsOk_of laidOut orc0_ok mixed (by kernel_rfl)) f25_un f25_un_ok [] (fun _ => rfl)
      (fun x ret => f25_eq k  ret x.1 x.2)

/- (catchpole/byteset.Set).And -/
noncomputable def f26_I : PV × PV → List SV × Obs := fun x => ([.val 24 x.1, .val 24 x.2], [])
noncomputable def f26_D : List SV → Obs → Option (PV × PV)
  | [.val 24 p1, .val 24 p2], [] => some (p1, p2)
  | _, _ => none
theorem f26_D_ok (args : List SV) (B : Obs) (x : PV × PV) (h : f26_D args B = some x) : f26_I x = (args, B) := by
  unfold f26_D at h
  split at h
  · injection h with h; subst h; rfl
  · cases h
noncomputable def f26_O : PV → Out := (fun y => ([.val 24 y], []))
noncomputable def f26_un : Out → Option (PV)
  | ([.val 24 y0], []) => some y0
  | _ => none
theorem f26_un_ok (o : Out) (y : PV) (h : f26_un o = some y) : o = f26_O y := by
  unfold f26_un at h
  split at h
  · injection h with h; subst h; rfl
  · cases h
noncomputable def f26_msk : Nat → Option (List Nat) := fun key => bif key == 6 then some [2, 3, 4, 6] else none
noncomputable def f26_C : Oracle := orc0
noncomputable def f26_E (k : Nat) : Env := { P := Try.prog, nilOwn := fun d => false, fldOwn := fun d i => false, ownPar := ownPars, ownRet := false, mask := f26_msk, fuel := k, C := f26_C }
noncomputable def f26_code : Code := Try.f26.body.getD .skip
noncomputable def f26_cw1 : Code := subC f26_code [1, 0, 1, 0, 0]
noncomputable def f26_hw1_0 (p2 : PV) (n4 : Int) (p5 : PV) : St := ⟨[.dead, .dead, .ptr 2 [], .ptr 3 [], .ptr 4 [], .dead, .int .i64 n4, .dead, .dead, .dead, .dead, .dead, .dead, .dead, .dead, .dead, .dead, .dead, .dead], [(2, .box 24 (.val 24 p5)), (3, .box 24 (.val 24 p2)), (4, .box 24 (.val 24 (PV.agg [(PV.int 0), (PV.int 0), (PV.int 0), (PV.int 0)])))]⟩
noncomputable def f26_w1A (k : Nat) (retF : PV → R) (p2 : PV) (n4 : Int) (p5 : PV) : R := loopM (f26_E k) f26_cw1 (kont (f26_E k) f26_code [1, 0, 1, 0] (endK (f26_E k) Try.f26 [] f26_un retF)) k (f26_hw1_0 p2 n4 p5)
noncomputable def f26_w1b0 (ret0 : PV → R) (next_w1_0 : Int → PV → R) (p2 : PV) (n4 : Int) (p5 : PV) : R :=
  bif (decide (n4 < (4 : Int))) then
    bif (true && decide ((0 : Int) ≤ n4) && decide (n4 < 4)) then
      bif (true && decide ((0 : Int) ≤ n4) && decide (n4 < 4)) then
        bif (true && decide ((0 : Int) ≤ n4) && decide (n4 < 4)) then
          let p6 : PV := (PV.agg (List.set (PV.flds p5) (n4).toNat (PV.int (intBit .and .u64 (PV.num (PV.fld p5 (n4).toNat)) (PV.num (PV.fld p2 (n4).toNat))))))
          next_w1_0 (IntKind.wrap .i64 (n4 + (1 : Int))) p6
        else none
      else none
    else none
  else ret0 p5

theorem f26_w1b0_mem (k : Nat) (retF : PV → R) (NX_w1 : St → R) (p2 : PV) (n4 : Int) (p5 : PV) : exec (f26_E k) f26_cw1 (purgeK (f26_E k) f26_cw1 (loopK NX_w1 (kont (f26_E k) f26_code [1, 0, 1, 0] (endK (f26_E k) Try.f26 [] f26_un retF)))) (f26_hw1_0 p2 n4 p5) = f26_w1b0 (fun y0 => retF y0) (fun n4 p5 => NX_w1 (f26_hw1_0 p2 n4 p5)) p2 n4 p5 := by kernel_rfl

noncomputable def f26_w1b0N (k : Nat) (ret0 : PV → R) (next_w1_0 : Int → PV → R) (p2 : PV) (n4 : Int) (p5 : PV) : R :=
  f26_w1b0 ret0 next_w1_0 p2 n4 p5
theorem f26_w1b0_eq (k : Nat) (retF : PV → R) (NX_w1 : St → R) (p2 : PV) (n4 : Int) (p5 : PV) : exec (f26_E k) f26_cw1 (purgeK (f26_E k) f26_cw1 (loopK NX_w1 (kont (f26_E k) f26_code [1, 0, 1, 0] (endK (f26_E k) Try.f26 [] f26_un retF)))) (f26_hw1_0 p2 n4 p5) = f26_w1b0N k (fun y0 => retF y0) (fun n4 p5 => NX_w1 (f26_hw1_0 p2 n4 p5)) p2 n4 p5 :=
  (f26_w1b0_mem k retF NX_w1 p2 n4 p5)

noncomputable def f26_w1B (k : Nat) (ret0 : PV → R) (p2 : PV) (nx : Int × PV → R) : Int × PV → R := (fun s => f26_w1b0N k ret0 (fun n4 p5 => nx (n4, p5)) p2 s.1 s.2)
noncomputable def f26_w1N (k : Nat) (ret0 : PV → R) (p2 : PV) (n4 : Int) (p5 : PV) : R := loopR (f26_w1B k ret0 p2) k (n4, p5)
theorem f26_w1_eq (k : Nat) (retF : PV → R) (p2 : PV) (n4 : Int) (p5 : PV) : f26_w1A k retF p2 n4 p5 = f26_w1N k (fun y0 => retF y0) p2 n4 p5 :=
  Eq.mp (by kernel_rfl) (loop_sim (E := (f26_E k)) (c := f26_cw1) (K := (kont (f26_E k) f26_code [1, 0, 1, 0] (endK (f26_E k) Try.f26 [] f26_un retF))) (S := Int × PV) (fun s => f26_hw1_0 p2 s.1 s.2) (f26_w1B k (fun y0 => retF y0) p2) (fun NX s => by
    exact Eq.mp (by kernel_rfl) (f26_w1b0_eq k retF NX p2 s.1 s.2)) k (n4, p5))

noncomputable def f26_e (ret0 : PV → R) (w1 : Int → PV → R) (p1 : PV) (p2 : PV) : R :=
  w1 0 p1

theorem f26_e_mem (k : Nat) (retF : PV → R) (p1 : PV) (p2 : PV) : exec (f26_E k) f26_code (endK (f26_E k) Try.f26 [] f26_un retF) ⟨[.val 24 p1, .val 24 p2, .undef, .undef, .undef, .undef, .undef, .undef, .undef, .undef, .undef, .undef, .undef, .undef, .undef, .undef, .undef, .undef, .undef], []⟩ = f26_e (fun y0 => retF y0) (fun n4 p5 => f26_w1A k retF p2 n4 p5) p1 p2 := by kernel_rfl

noncomputable def f26_N (k : Nat) (ret0 : PV → R) (p1 : PV) (p2 : PV) : R :=
  f26_e ret0 (fun n4 p5 => f26_w1N k ret0 p2 n4 p5) p1 p2
theorem f26_eq (k : Nat) (retF : PV → R) (p1 : PV) (p2 : PV) : exec (f26_E k) f26_code (endK (f26_E k) Try.f26 [] f26_un retF) ⟨[.val 24 p1, .val 24 p2, .undef, .undef, .undef, .undef, .undef, .undef, .undef, .undef, .undef, .undef, .undef, .undef, .undef, .undef, .undef, .undef, .undef], []⟩ = f26_N k (fun y0 => retF y0) p1 p2 :=
  (f26_e_mem k retF p1 p2).trans (by rw [show (fun n4 p5 => f26_w1A k retF p2 n4 p5) = (fun n4 p5 => f26_w1N k (fun y0 => retF y0) p2 n4 p5) from funext fun n4 => funext fun p5 => f26_w1_eq k retF p2 n4 p5]; rfl)

noncomputable def G26 : Nat → PV → PV → (PV → R) → R
  | 0, _, _, _ => none
  | k + 1, p1, p2, ret0 => f26_N k  ret0 p1 p2
theorem S26 : ∀ k, Snd Try.prog 26 f26_I f26_O (fun x ret => G26 k x.1 x.2 (fun y0 => ret y0))
  | 0 => snd_none
  | k + 1 => snd_step (E := f26_E k ) rfl laidOut noNums orc0_ok (f := 26) (fn := Try.f26) (code := f26_code) Try.func26 (by kernel_rfl) (drawsOk_of laidOut orc0_ok mixed (by kernel_rfl)) f26_un f26_un_ok [] (fun _ => rfl)
      (fun x ret => f26_eq k  ret x.1 x.2)

/- (catchpole/byteset.Set).Minus -/
noncomputable def f27_I : PV × PV → List SV × Obs := fun x => ([.val 24 x.1, .val 24 x.2], [])
noncomputable def f27_D : List SV → Obs → Option (PV × PV)
  | [.val 24 p1, .val 24 p2], [] => some (p1, p2)
  | _, _ => none
theorem f27_D_ok (args : List SV) (B : Obs) (x : PV × PV) (h : f27_D args B = some x) : f27_I x = (args, B) := by
  unfold f27_D at h
  split at h
  · injection h with h; subst h; rfl
  · cases h
noncomputable def f27_O : PV → Out := (fun y => ([.val 24 y], []))
noncomputable def f27_un : Out → Option (PV)
  | ([.val 24 y0], []) => some y0
  | _ => none
theorem f27_un_ok (o : Out) (y : PV) (h : f27_un o = some y) : o = f27_O y := by
  unfold f27_un at h
  split at h
  · injection h with h; subst h; rfl
  · cases h
noncomputable def f27_msk : Nat → Option (List Nat) := fun key =>  none
noncomputable def f27_C (c21 : PV → (PV → R) → R) (c26 : PV → PV → (PV → R) → R) : Oracle := orc 21 f21_D f21_O (fun x ret => c21 x (fun y0 => ret y0)) <| orc 26 f26_D f26_O (fun x ret => c26 x.1 x.2 (fun y0 => ret y0)) <| orc0
noncomputable def f27_E (k : Nat) (c21 : PV → (PV → R) → R) (c26 : PV → PV → (PV → R) → R) : Env := { P := Try.prog, nilOwn := fun d => false, fldOwn := fun d i => false, ownPar := ownPars, ownRet := false, mask := f27_msk, fuel := k, C := f27_C c21 c26 }
noncomputable def f27_code : Code := Try.f27.body.getD .skip
noncomputable def f27_e (c21 : PV → (PV → R) → R) (c26 : PV → PV → (PV → R) → R) (ret0 : PV → R) (p1 : PV) (p2 : PV) : R :=
  c21 p2 fun p3 =>
  c26 p1 p3 fun p4 =>
  ret0 p4

theorem f27_e_mem (k : Nat) (c21 : PV → (PV → R) → R) (c26 : PV → PV → (PV → R) → R) (retF : PV → R) (p1 : PV) (p2 : PV) : exec (f27_E k c21 c26) f27_code (endK (f27_E k c21 c26) Try.f27 [] f27_un retF) ⟨[.val 24 p1, .val 24 p2, .undef, .undef, .undef, .undef, .undef, .undef, .undef], []⟩ = f27_e c21 c26 (fun y0 => retF y0) p1 p2 := by kernel_rfl

noncomputable def f27_N (k : Nat) (c21 : PV → (PV → R) → R) (c26 : PV → PV → (PV → R) → R) (ret0 : PV → R) (p1 : PV) (p2 : PV) : R :=
  f27_e c21 c26 ret0 p1 p2
theorem f27_eq (k : Nat) (c21 : PV → (PV → R) → R) (c26 : PV → PV → (PV → R) → R) (retF : PV → R) (p1 : PV) (p2 : PV) : exec (f27_E k c21 c26) f27_code (endK (f27_E k c21 c26) Try.f27 [] f27_un retF) ⟨[.val 24 p1, .val 24 p2, .undef, .undef, .undef, .undef, .undef, .undef, .undef], []⟩ = f27_N k c21 c26 (fun y0 => retF y0) p1 p2 :=
  (f27_e_mem k c21 c26 retF p1 p2)

noncomputable def G27 : Nat → PV → PV → (PV → R) → R
  | 0, _, _, _ => none
  | k + 1, p1, p2, ret0 => f27_N k (G21 k) (G26 k) ret0 p1 p2
theorem S27 : ∀ k, Snd Try.prog 27 f27_I f27_O (fun x ret => G27 k x.1 x.2 (fun y0 => ret y0))
  | 0 => snd_none
  | k + 1 => snd_step (E := f27_E k (G21 k) (G26 k)) rfl laidOut noNums (orc_ok (S21 k).o f21_D_ok (orc_ok (S26 k).o f26_D_ok orc0_ok)) (f := 27) (fn := Try.f27) (code := f27_code) Try.func27 (by kernel_rfl) (drawsOk_of laidOut (orc_ok (S21 k).o f21_D_ok (orc_ok (S26 k).o f26_D_ok orc0_ok)) mixed (by kernel_rfl)) f27_un f27_un_ok [] (fun _ => rfl)
      (fun x ret => f27_eq k (G21 k) (G26 k) ret x.1 x.2)

/- catchpole/catchpolelaw1.BytesetLaws -/
noncomputable def f6_I : PV × PV × PV → List SV × Obs := fun x => ([.val 24 x.1, .val 24 x.2.1, .val 24 x.2.2], [])
noncomputable def f6_D : List SV → Obs → Option (PV × PV × PV)
  | [.val 24 p1, .val 24 p2, .val 24 p3], [] => some (p1, p2, p3)
  | _, _ => none
theorem f6_D_ok (args : List SV) (B : Obs) (x : PV × PV × PV) (h : f6_D args B = some x) : f6_I x = (args, B) := by
  unfold f6_D at h
  split at h
  · injection h with h; subst h; rfl
  · cases h
noncomputable def f6_O : Bool → Out := (fun y => ([.bool y], []))
noncomputable def f6_un : Out → Option (Bool)
  | ([.bool y0], []) => some y0
  | _ => none
theorem f6_un_ok (o : Out) (y : Bool) (h : f6_un o = some y) : o = f6_O y := by
  unfold f6_un at h
  split at h
  · injection h with h; subst h; rfl
  · cases h
noncomputable def f6_msk : Nat → Option (List Nat) := fun key => bif key == 18 then some [3, 4, 5, 7, 8, 9] else none
noncomputable def f6_C (c14 : (Bool → R) → R) (c15 : PV → (PV → R) → R) (c16 : PV → (Int → R) → R) (c18 : PV → (PV → R) → R) (c21 : PV → (PV → R) → R) (c22 : Int → Int → (PV → R) → R) (c24 : PV → PV → (Int → R) → R) (c25 : PV → PV → (PV → R) → R) (c26 : PV → PV → (PV → R) → R) (c27 : PV → PV → (PV → R) → R) : Oracle := orc 14 f14_D f14_O (fun x ret => c14 (fun y0 => ret y0)) <| orc 15 f15_D f15_O (fun x ret => c15 x (fun y0 => ret y0)) <| orc 16 f16_D f16_O (fun x ret => c16 x (fun y0 => ret y0)) <| orc 18 f18_D f18_O (fun x ret => c18 x (fun y0 => ret y0)) <| orc 21 f21_D f21_O (fun x ret => c21 x (fun y0 => ret y0)) <| orc 22 f22_D f22_O (fun x ret => c22 x.1 x.2 (fun y0 => ret y0)) <| orc 24 f24_D f24_O (fun x ret => c24 x.1 x.2 (fun y0 => ret y0)) <| orc 25 f25_D f25_O (fun x ret => c25 x.1 x.2 (fun y0 => ret y0)) <| orc 26 f26_D f26_O (fun x ret => c26 x.1 x.2 (fun y0 => ret y0)) <| orc 27 f27_D f27_O (fun x ret => c27 x.1 x.2 (fun y0 => ret y0)) <| orc0
noncomputable def f6_E (k : Nat) (c14 : (Bool → R) → R) (c15 : PV → (PV → R) → R) (c16 : PV → (Int → R) → R) (c18 : PV → (PV → R) → R) (c21 : PV → (PV → R) → R) (c22 : Int → Int → (PV → R) → R) (c24 : PV → PV → (Int → R) → R) (c25 : PV → PV → (PV → R) → R) (c26 : PV → PV → (PV → R) → R) (c27 : PV → PV → (PV → R) → R) : Env := { P := Try.prog, nilOwn := fun d => false, fldOwn := fun d i => false, ownPar := ownPars, ownRet := false, mask := f6_msk, fuel := k, C := f6_C c14 c15 c16 c18 c21 c22 c24 c25 c26 c27 }
noncomputable def f6_code : Code := Try.f6.body.getD .skip
noncomputable def f6_cw1 : Code := subC f6_code [1, 1, 1, 1, 0, 1, 0, 0]
noncomputable def f6_hw1_0 (p1 : PV) (p2 : PV) (p3 : PV) (p6 : PV) (n36 : Int) (p37 : PV) : St := ⟨[.dead, .dead, .dead, .ptr 3 [], .ptr 4 [], .ptr 5 [], .dead, .ptr 7 [], .val 26 p6, .int .i64 n36, .dead, .dead, .dead, .dead, .dead, .dead, .dead, .dead, .dead, .dead, .dead, .dead, .dead, .dead, .dead, .dead, .dead, .dead, .dead, .dead, .dead, .dead, .dead, .dead, .dead, .dead, .dead, .dead, .dead, .dead, .dead, .dead, .dead, .dead, .dead, .dead, .dead, .dead, .dead, .dead, .dead, .dead, .dead, .dead, .dead, .dead, .dead, .dead, .dead, .dead, .dead, .dead, .dead, .dead, .dead, .dead, .dead, .dead, .dead, .dead, .dead, .dead, .dead, .dead, .dead, .dead, .dead, .dead, .dead, .dead, .dead, .dead, .dead, .dead, .dead, .dead, .dead, .dead, .dead, .dead, .dead, .dead, .dead, .dead, .dead, .dead, .dead, .dead, .dead, .dead, .dead, .dead, .dead, .dead, .dead, .dead, .dead, .dead, .dead, .dead, .dead, .dead, .dead, .dead, .dead, .dead, .dead, .dead, .dead, .dead, .dead, .dead, .dead, .dead, .dead, .dead, .dead], [(3, .box 24 (.val 24 p1)), (4, .box 24 (.val 24 p2)), (5, .box 24 (.val 24 p3)), (7, .box 24 (.val 24 p37))]⟩
noncomputable def f6_w1A (k : Nat) (c14 : (Bool → R) → R) (c15 : PV → (PV → R) → R) (c16 : PV → (Int → R) → R) (c18 : PV → (PV → R) → R) (c21 : PV → (PV → R) → R) (c22 : Int → Int → (PV → R) → R) (c24 : PV → PV → (Int → R) → R) (c25 : PV → PV → (PV → R) → R) (c26 : PV → PV → (PV → R) → R) (c27 : PV → PV → (PV → R) → R) (retF : Bool → R) (p1 : PV) (p2 : PV) (p3 : PV) (p6 : PV) (n36 : Int) (p37 : PV) : R := loopM (f6_E k c14 c15 c16 c18 c21 c22 c24 c25 c26 c27) f6_cw1 (kont (f6_E k c14 c15 c16 c18 c21 c22 c24 c25 c26 c27) f6_code [1, 1, 1, 1, 0, 1, 0] (endK (f6_E k c14 c15 c16 c18 c21 c22 c24 c25 c26 c27) Try.f6 [] f6_un retF)) k (f6_hw1_0 p1 p2 p3 p6 n36 p37)
noncomputable def f6_w1b0 (c14 : (Bool → R) → R) (c15 : PV → (PV → R) → R) (c16 : PV → (Int → R) → R) (c18 : PV → (PV → R) → R) (c21 : PV → (PV → R) → R) (c22 : Int → Int → (PV → R) → R) (c24 : PV → PV → (Int → R) → R) (c25 : PV → PV → (PV → R) → R) (c26 : PV → PV → (PV → R) → R) (c27 : PV → PV → (PV → R) → R) (ret0 : Bool → R) (next_w1_0 : Int → PV → R) (p1 : PV) (p2 : PV) (p3 : PV) (p6 : PV) (n36 : Int) (p37 : PV) : R :=
  bif (decide (n36 < (List.length (PV.els p6) : Int))) then
    bif (true && decide ((0 : Int) ≤ n36) && decide (n36 < (List.length (PV.els p6) : Int))) then
      bif (true && decide ((0 : Int) ≤ n36) && decide (n36 < (List.length (PV.els p6) : Int))) then
        c22 (PV.num (PV.fld (List.getD (PV.els p6) (n36).toNat PV.nil) 0)) (PV.num (PV.fld (List.getD (PV.els p6) (n36).toNat PV.nil) 1)) fun p38 =>
        c25 p37 p38 fun p39 =>
        next_w1_0 (IntKind.wrap .i64 (n36 + (1 : Int))) p39
      else none
    else none
  else bif ((PV.beq p37 p1) == true) then
    c25 p1 p2 fun p40 =>
    c21 p40 fun p41 =>
    c21 p1 fun p42 =>
    c21 p2 fun p43 =>
    c26 p42 p43 fun p44 =>
    bif ((PV.beq p41 p44) == true) then
      c27 p1 p2 fun p45 =>
      c21 p2 fun p46 =>
      c26 p1 p46 fun p47 =>
      bif ((PV.beq p45 p47) == true) then
        c25 p2 p3 fun p48 =>
        c26 p1 p48 fun p49 =>
        c26 p1 p2 fun p50 =>
        c26 p1 p3 fun p51 =>
        c25 p50 p51 fun p52 =>
        bif ((PV.beq p49 p52) == true) then
          c21 p1 fun p53 =>
          c21 p53 fun p54 =>
          bif ((PV.beq p54 p1) == true) then
            c16 p1 fun n55 =>
            c21 p1 fun p56 =>
            c16 p56 fun n57 =>
            bif ((decide ((IntKind.wrap .i64 (n55 + n57)) = (256 : Int))) == true) then
              c25 p1 p2 fun p58 =>
              c16 p58 fun n59 =>
              c26 p1 p2 fun p60 =>
              c16 p60 fun n61 =>
              c16 p1 fun n62 =>
              c16 p2 fun n63 =>
              bif ((decide ((IntKind.wrap .i64 (n59 + n61)) = (IntKind.wrap .i64 (n62 + n63)))) == true) then
                c24 p1 p2 fun n64 =>
                c24 p2 p1 fun n65 =>
                bif ((decide (n64 = (IntKind.wrap .i64 (0 - n65)))) == true) then
                  c24 p1 p2 fun n66 =>
                  ret0 ((decide (n66 = (0 : Int))) == (PV.beq p1 p2))
                else ret0 false
              else ret0 false
            else ret0 false
          else ret0 false
        else ret0 false
      else ret0 false
    else ret0 false
  else ret0 false

theorem f6_w1b0_mem (k : Nat) (c14 : (Bool → R) → R) (c15 : PV → (PV → R) → R) (c16 : PV → (Int → R) → R) (c18 : PV → (PV → R) → R) (c21 : PV → (PV → R) → R) (c22 : Int → Int → (PV → R) → R) (c24 : PV → PV → (Int → R) → R) (c25 : PV → PV → (PV → R) → R) (c26 : PV → PV → (PV → R) → R) (c27 : PV → PV → (PV → R) → R) (retF : Bool → R) (NX_w1 : St → R) (p1 : PV) (p2 : PV) (p3 : PV) (p6 : PV) (n36 : Int) (p37 : PV) : exec (f6_E k c14 c15 c16 c18 c21 c22 c24 c25 c26 c27) f6_cw1 (purgeK (f6_E k c14 c15 c16 c18 c21 c22 c24 c25 c26 c27) f6_cw1 (loopK NX_w1 (kont (f6_E k c14 c15 c16 c18 c21 c22 c24 c25 c26 c27) f6_code [1, 1, 1, 1, 0, 1, 0] (endK (f6_E k c14 c15 c16 c18 c21 c22 c24 c25 c26 c27) Try.f6 [] f6_un retF)))) (f6_hw1_0 p1 p2 p3 p6 n36 p37) = f6_w1b0 c14 c15 c16 c18 c21 c22 c24 c25 c26 c27 (fun y0 => retF y0) (fun n36 p37 => NX_w1 (f6_hw1_0 p1 p2 p3 p6 n36 p37)) p1 p2 p3 p6 n36 p37 := by kernel_rfl

noncomputable def f6_w1b0N (k : Nat) (c14 : (Bool → R) → R) (c15 : PV → (PV → R) → R) (c16 : PV → (Int → R) → R) (c18 : PV → (PV → R) → R) (c21 : PV → (PV → R) → R) (c22 : Int → Int → (PV → R) → R) (c24 : PV → PV → (Int → R) → R) (c25 : PV → PV → (PV → R) → R) (c26 : PV → PV → (PV → R) → R) (c27 : PV → PV → (PV → R) → R) (ret0 : Bool → R) (next_w1_0 : Int → PV → R) (p1 : PV) (p2 : PV) (p3 : PV) (p6 : PV) (n36 : Int) (p37 : PV) : R :=
  f6_w1b0 c14 c15 c16 c18 c21 c22 c24 c25 c26 c27 ret0 next_w1_0 p1 p2 p3 p6 n36 p37
theorem f6_w1b0_eq (k : Nat) (c14 : (Bool → R) → R) (c15 : PV → (PV → R) → R) (c16 : PV → (Int → R) → R) (c18 : PV → (PV → R) → R) (c21 : PV → (PV → R) → R) (c22 : Int → Int → (PV → R) → R) (c24 : PV → PV → (Int → R) → R) (c25 : PV → PV → (PV → R) → R) (c26 : PV → PV → (PV → R) → R) (c27 : PV → PV → (PV → R) → R) (retF : Bool → R) (NX_w1 : St → R) (p1 : PV) (p2 : PV) (p3 : PV) (p6 : PV) (n36 : Int) (p37 : PV) : exec (f6_E k c14 c15 c16 c18 c21 c22 c24 c25 c26 c27) f6_cw1 (purgeK (f6_E k c14 c15 c16 c18 c21 c22 c24 c25 c26 c27) f6_cw1 (loopK NX_w1 (kont (f6_E k c14 c15 c16 c18 c21 c22 c24 c25 c26 c27) f6_code [1, 1, 1, 1, 0, 1, 0] (endK (f6_E k c14 c15 c16 c18 c21 c22 c24 c25 c26 c27) Try.f6 [] f6_un retF)))) (f6_hw1_0 p1 p2 p3 p6 n36 p37) = f6_w1b0N k c14 c15 c16 c18 c21 c22 c24 c25 c26 c27 (fun y0 => retF y0) (fun n36 p37 => NX_w1 (f6_hw1_0 p1 p2 p3 p6 n36 p37)) p1 p2 p3 p6 n36 p37 :=
  (f6_w1b0_mem k c14 c15 c16 c18 c21 c22 c24 c25 c26 c27 retF NX_w1 p1 p2 p3 p6 n36 p37)

noncomputable def f6_w1B (k : Nat) (c14 : (Bool → R) → R) (c15 : PV → (PV → R) → R) (c16 : PV → (Int → R) → R) (c18 : PV → (PV → R) → R) (c21 : PV → (PV → R) → R) (c22 : Int → Int → (PV → R) → R) (c24 : PV → PV → (Int → R) → R) (c25 : PV → PV → (PV → R) → R) (c26 : PV → PV → (PV → R) → R) (c27 : PV → PV → (PV → R) → R) (ret0 : Bool → R) (p1 : PV) (p2 : PV) (p3 : PV) (p6 : PV) (nx : Int × PV → R) : Int × PV → R := (fun s => f6_w1b0N k c14 c15 c16 c18 c21 c22 c24 c25 c26 c27 ret0 (fun n36 p37 => nx (n36, p37)) p1 p2 p3 p6 s.1 s.2)
noncomputable def f6_w1N (k : Nat) (c14 : (Bool → R) → R) (c15 : PV → (PV → R) → R) (c16 : PV → (Int → R) → R) (c18 : PV → (PV → R) → R) (c21 : PV → (PV → R) → R) (c22 : Int → Int → (PV → R) → R) (c24 : PV → PV → (Int → R) → R) (c25 : PV → PV → (PV → R) → R) (c26 : PV → PV → (PV → R) → R) (c27 : PV → PV → (PV → R) → R) (ret0 : Bool → R) (p1 : PV) (p2 : PV) (p3 : PV) (p6 : PV) (n36 : Int) (p37 : PV) : R := loopR (f6_w1B k c14 c15 c16 c18 c21 c22 c24 c25 c26 c27 ret0 p1 p2 p3 p6) k (n36, p37)
theorem f6_w1_eq (k : Nat) (c14 : (Bool → R) → R) (c15 : PV → (PV → R) → R) (c16 : PV → (Int → R) → R) (c18 : PV → (PV → R) → R) (c21 : PV → (PV → R) → R) (c22 : Int → Int → (PV → R) → R) (c24 : PV → PV → (Int → R) → R) (c25 : PV → PV → (PV → R) → R) (c26 : PV → PV → (PV → R) → R) (c27 : PV → PV → (PV → R) → R) (retF : Bool → R) (p1 : PV) (p2 : PV) (p3 : PV) (p6 : PV) (n36 : Int) (p37 : PV) : f6_w1A k c14 c15 c16 c18 c21 c22 c24 c25 c26 c27 retF p1 p2 p3 p6 n36 p37 = f6_w1N k c14 c15 c16 c18 c21 c22 c24 c25 c26 c27 (fun y0 => retF y0) p1 p2 p3 p6 n36 p37 :=
  Eq.mp (by kernel_rfl) (loop_sim (E := (f6_E k c14 c15 c16 c18 c21 c22 c24 c25 c26 c27)) (c := f6_cw1) (K := (kont (f6_E k c14 c15 c16 c18 c21 c22 c24 c25 c26 c27) f6_code [1, 1, 1, 1, 0, 1, 0] (endK (f6_E k c14 c15 c16 c18 c21 c22 c24 c25 c26 c27) Try.f6 [] f6_un retF))) (S := Int × PV) (fun s => f6_hw1_0 p1 p2 p3 p6 s.1 s.2) (f6_w1B k c14 c15 c16 c18 c21 c22 c24 c25 c26 c27 (fun y0 => retF y0) p1 p2 p3 p6) (fun NX s => by
    exact Eq.mp (by kernel_rfl) (f6_w1b0_eq k c14 c15 c16 c18 c21 c22 c24 c25 c26 c27 retF NX p1 p2 p3 p6 s.1 s.2)) k (n36, p37))

noncomputable def f6_e (c14 : (Bool → R) → R) (c15 : PV → (PV → R) → R) (c16 : PV → (Int → R) → R) (c18 : PV → (PV → R) → R) (c21 : PV → (PV → R) → R) (c22 : Int → Int → (PV → R) → R) (c24 : PV → PV → (Int → R) → R) (c25 : PV → PV → (PV → R) → R) (c26 : PV → PV → (PV → R) → R) (c27 : PV → PV → (PV → R) → R) (ret0 : Bool → R) (w1 : PV → Int → PV → R) (p1 : PV) (p2 : PV) (p3 : PV) : R :=
  c14 fun b4 =>
  bif (!b4) then
    ret0 false
  else c18 (PV.list []) fun p5 =>
  c15 p1 fun p6 =>
  w1 p6 0 p5

theorem f6_e_mem (k : Nat) (c14 : (Bool → R) → R) (c15 : PV → (PV → R) → R) (c16 : PV → (Int → R) → R) (c18 : PV → (PV → R) → R) (c21 : PV → (PV → R) → R) (c22 : Int → Int → (PV → R) → R) (c24 : PV → PV → (Int → R) → R) (c25 : PV → PV → (PV → R) → R) (c26 : PV → PV → (PV → R) → R) (c27 : PV → PV → (PV → R) → R) (retF : Bool → R) (p1 : PV) (p2 : PV) (p3 : PV) : exec (f6_E k c14 c15 c16 c18 c21 c22 c24 c25 c26 c27) f6_code (endK (f6_E k c14 c15 c16 c18 c21 c22 c24 c25 c26 c27) Try.f6 [] f6_un retF) ⟨[.val 24 p1, .val 24 p2, .val 24 p3, .undef, .undef, .undef, .undef, .undef, .undef, .undef, .undef, .undef, .undef, .undef, .undef, .undef, .undef, .undef, .undef, .undef, .undef, .undef, .undef, .undef, .undef, .undef, .undef, .undef, .undef, .undef, .undef, .undef, .undef, .undef, .undef, .undef, .undef, .undef, .undef, .undef, .undef, .undef, .undef, .undef, .undef, .undef, .undef, .undef, .undef, .undef, .undef, .undef, .undef, .undef, .undef, .undef, .undef, .undef, .undef, .undef, .undef, .undef, .undef, .undef, .undef, .undef, .undef, .undef, .undef, .undef, .undef, .undef, .undef, .undef, .undef, .undef, .undef, .undef, .undef, .undef, .undef, .undef, .undef, .undef, .undef, .undef, .undef, .undef, .undef, .undef, .undef, .undef, .undef, .undef, .undef, .undef, .undef, .undef, .undef, .undef, .undef, .undef, .undef, .undef, .undef, .undef, .undef, .undef, .undef, .undef, .undef, .undef, .undef, .undef, .undef, .undef, .undef, .undef, .undef, .undef, .undef, .undef, .undef, .undef, .undef, .undef, .undef], []⟩ = f6_e c14 c15 c16 c18 c21 c22 c24 c25 c26 c27 (fun y0 => retF y0) (fun p6 n36 p37 => f6_w1A k c14 c15 c16 c18 c21 c22 c24 c25 c26 c27 retF p1 p2 p3 p6 n36 p37) p1 p2 p3 := by kernel_rfl

noncomputable def f6_N (k : Nat) (c14 : (Bool → R) → R) (c15 : PV → (PV → R) → R) (c16 : PV → (Int → R) → R) (c18 : PV → (PV → R) → R) (c21 : PV → (PV → R) → R) (c22 : Int → Int → (PV → R) → R) (c24 : PV → PV → (Int → R) → R) (c25 : PV → PV → (PV → R) → R) (c26 : PV → PV → (PV → R) → R) (c27 : PV → PV → (PV → R) → R) (ret0 : Bool → R) (p1 : PV) (p2 : PV) (p3 : PV) : R :=
  f6_e c14 c15 c16 c18 c21 c22 c24 c25 c26 c27 ret0 (fun p6 n36 p37 => f6_w1N k c14 c15 c16 c18 c21 c22 c24 c25 c26 c27 ret0 p1 p2 p3 p6 n36 p37) p1 p2 p3
theorem f6_eq (k : Nat) (c14 : (Bool → R) → R) (c15 : PV → (PV → R) → R) (c16 : PV → (Int → R) → R) (c18 : PV → (PV → R) → R) (c21 : PV → (PV → R) → R) (c22 : Int → Int → (PV → R) → R) (c24 : PV → PV → (Int → R) → R) (c25 : PV → PV → (PV → R) → R) (c26 : PV → PV → (PV → R) → R) (c27 : PV → PV → (PV → R) → R) (retF : Bool → R) (p1 : PV) (p2 : PV) (p3 : PV) : exec (f6_E k c14 c15 c16 c18 c21 c22 c24 c25 c26 c27) f6_code (endK (f6_E k c14 c15 c16 c18 c21 c22 c24 c25 c26 c27) Try.f6 [] f6_un retF) ⟨[.val 24 p1, .val 24 p2, .val 24 p3, .undef, .undef, .undef, .undef, .undef, .undef, .undef, .undef, .undef, .undef, .undef, .undef, .undef, .undef, .undef, .undef, .undef, .undef, .undef, .undef, .undef, .undef, .undef, .undef, .undef, .undef, .undef, .undef, .undef, .undef, .undef, .undef, .undef, .undef, .undef, .undef, .undef, .undef, .undef, .undef, .undef, .undef, .undef, .undef, .undef, .undef, .undef, .undef, .undef, .undef, .undef, .undef, .undef, .undef, .undef, .undef, .undef, .undef, .undef, .undef, .undef, .undef, .undef, .undef, .undef, .undef, .undef, .undef, .undef, .undef, .undef, .undef, .undef, .undef, .undef, .undef, .undef, .undef, .undef, .undef, .undef, .undef, .undef, .undef, .undef, .undef, .undef, .undef, .undef, .undef, .undef, .undef, .undef, .undef, .undef, .undef, .undef, .undef, .undef, .undef, .undef, .undef, .undef, .undef, .undef, .undef, .undef, .undef, .undef, .undef, .undef, .undef, .undef, .undef, .undef, .undef, .undef, .undef, .undef, .undef, .undef, .undef, .undef, .undef], []⟩ = f6_N k c14 c15 c16 c18 c21 c22 c24 c25 c26 c27 (fun y0 => retF y0) p1 p2 p3 :=
  (f6_e_mem k c14 c15 c16 c18 c21 c22 c24 c25 c26 c27 retF p1 p2 p3).trans (by rw [show (fun p6 n36 p37 => f6_w1A k c14 c15 c16 c18 c21 c22 c24 c25 c26 c27 retF p1 p2 p3 p6 n36 p37) = (fun p6 n36 p37 => f6_w1N k c14 c15 c16 c18 c21 c22 c24 c25 c26 c27 (fun y0 => retF y0) p1 p2 p3 p6 n36 p37) from funext fun p6 => funext fun n36 => funext fun p37 => f6_w1_eq k c14 c15 c16 c18 c21 c22 c24 c25 c26 c27 retF p1 p2 p3 p6 n36 p37]; rfl)

noncomputable def G6 : Nat → PV → PV → PV → (Bool → R) → R
  | 0, _, _, _, _ => none
  | k + 1, p1, p2, p3, ret0 => f6_N k (G14 k) (G15 k) (G16 k) (G18 k) (G21 k) (G22 k) (G24 k) (G25 k) (G26 k) (G27 k) ret0 p1 p2 p3
theorem S6 : ∀ k, Snd Try.prog 6 f6_I f6_O (fun x ret => G6 k x.1 x.2.1 x.2.2 (fun y0 => ret y0))
  | 0 => snd_none
  | k + 1 => snd_step (E := f6_E k (G14 k) (G15 k) (G16 k) (G18 k) (G21 k) (G22 k) (G24 k) (G25 k) (G26 k) (G27 k)) rfl laidOut noNums (orc_ok (S14 k).o f14_D_ok (orc_ok (S15 k).o f15_D_ok (orc_ok (S16 k).o f16_D_ok (orc_ok (S18 k).o f18_D_ok (orc_ok (S21 k).o f21_D_ok (orc_ok (S22 k).o f22_D_ok (orc_ok (S24 k).o f24_D_ok (orc_ok (S25 k).o f25_D_ok (orc_ok (S26 k).o f26_D_ok (orc_ok (S27 k).o f27_D_ok orc0_ok)))))))))) (f := 6) (fn := Try.f6) (code := f6_code) Try.func6 (by kernel_rfl) (drawsOk_of laidOut (orc_ok (S14 k).o f14_D_ok (orc_ok (S15 k).o f15_D_ok (orc_ok (S16 k).o f16_D_ok (orc_ok (S18 k).o f18_D_ok (orc_ok (S21 k).o f21_D_ok (orc_ok (S22 k).o f22_D_ok (orc_ok (S24 k).o f24_D_ok (orc_ok (S25 k).o f25_D_ok (orc_ok (S26 k).o f26_D_ok (orc_ok (S27 k).o f27_D_ok orc0_ok)))))))))) mixed (by kernel_rfl)) f6_un f6_un_ok [] (fun _ => rfl)
      (fun x ret => f6_eq k (G14 k) (G15 k) (G16 k) (G18 k) (G21 k) (G22 k) (G24 k) (G25 k) (G26 k) (G27 k) ret x.1 x.2.1 x.2.2)

/- catchpole/catchpoleref1.From -/
noncomputable def f65_I : PV → List SV × Obs := fun x => ([.val 23 x], [])
noncomputable def f65_D : List SV → Obs → Option (PV)
  | [.val 23 p1], [] => some p1
  | _, _ => none
theorem f65_D_ok (args : List SV) (B : Obs) (x : PV) (h : f65_D args B = some x) : f65_I x = (args, B) := by
  unfold f65_D at h
  split at h
  · injection h with h; subst h; rfl
  · cases h
noncomputable def f65_O : PV → Out := (fun y => ([.val 45 y], []))
noncomputable def f65_un : Out → Option (PV)
  | ([.val 45 y0], []) => some y0
  | _ => none
theorem f65_un_ok (o : Out) (y : PV) (h : f65_un o = some y) : o = f65_O y := by
  unfold f65_un at h
  split at h
  · injection h with h; subst h; rfl
  · cases h
noncomputable def f65_msk : Nat → Option (List Nat) := fun key => bif key == 9 then some [1, 2, 3, 4] else none
noncomputable def f65_C : Oracle := orc0
noncomputable def f65_E (k : Nat) : Env := { P := Try.prog, nilOwn := fun d => false, fldOwn := fun d i => false, ownPar := ownPars, ownRet := false, mask := f65_msk, fuel := k, C := f65_C }
noncomputable def f65_code : Code := Try.f65.body.getD .skip
noncomputable def f65_cw1 : Code := subC f65_code [1, 1, 0, 1, 0, 0]
noncomputable def f65_hw1_0 (p1 : PV) (n3 : Int) (p4 : PV) : St := ⟨[.dead, .ptr 1 [], .ptr 2 [], .ptr 3 [], .int .i64 n3, .dead, .dead, .dead, .dead, .dead, .dead, .dead, .dead, .dead, .dead, .dead, .dead, .dead, .dead, .dead, .dead, .dead], [(1, .box 23 (.val 23 p1)), (2, .box 45 (.val 45 (PV.agg (List.replicate 256 (PV.bool false))))), (3, .box 45 (.val 45 p4))]⟩
noncomputable def f65_w1A (k : Nat) (retF : PV → R) (p1 : PV) (n3 : Int) (p4 : PV) : R := loopM (f65_E k) f65_cw1 (kont (f65_E k) f65_code [1, 1, 0, 1, 0] (endK (f65_E k) Try.f65 [] f65_un retF)) k (f65_hw1_0 p1 n3 p4)
noncomputable def f65_w1b0 (ret0 : PV → R) (next_w1_0 : Int → PV → R) (p1 : PV) (n3 : Int) (p4 : PV) : R :=
  bif (decide (n3 < (256 : Int))) then
    bif (true && decide ((0 : Int) ≤ (IntKind.wrap .i64 (Int.tdiv n3 64))) && decide ((IntKind.wrap .i64 (Int.tdiv n3 64)) < 4)) then
      bif (decide ((0 : Int) ≤ (IntKind.wrap .u64 (Int.tmod n3 64)))) then
        let n5 : Int := (Int.fdiv (PV.num (PV.fld p1 ((IntKind.wrap .i64 (Int.tdiv n3 64))).toNat)) (2 ^ (min ((IntKind.wrap .u64 (Int.tmod n3 64))).toNat 64)))
        bif (true && decide ((0 : Int) ≤ n3) && decide (n3 < 256)) then
          next_w1_0 (IntKind.wrap .i64 (n3 + (1 : Int))) (PV.agg (List.set (PV.flds p4) (n3).toNat (PV.bool (decide ((intBit .and .u64 n5 1) = (1 : Int))))))
        else none
      else none
    else none
  else ret0 p4

theorem f65_w1b0_mem (k : Nat) (retF : PV → R) (NX_w1 : St → R) (p1 : PV) (n3 : Int) (p4 : PV) : exec (f65_E k) f65_cw1 (purgeK (f65_E k) f65_cw1 (loopK NX_w1 (kont (f65_E k) f65_code [1, 1, 0, 1, 0] (endK (f65_E k) Try.f65 [] f65_un retF)))) (f65_hw1_0 p1 n3 p4) = f65_w1b0 (fun y0 => retF y0) (fun n3 p4 => NX_w1 (f65_hw1_0 p1 n3 p4)) p1 n3 p4 := by kernel_rfl

noncomputable def f65_w1b0N (k : Nat) (ret0 : PV → R) (next_w1_0 : Int → PV → R) (p1 : PV) (n3 : Int) (p4 : PV) : R :=
  f65_w1b0 ret0 next_w1_0 p1 n3 p4
theorem f65_w1b0_eq (k : Nat) (retF : PV → R) (NX_w1 : St → R) (p1 : PV) (n3 : Int) (p4 : PV) : exec (f65_E k) f65_cw1 (purgeK (f65_E k) f65_cw1 (loopK NX_w1 (kont (f65_E k) f65_code [1, 1, 0, 1, 0] (endK (f65_E k) Try.f65 [] f65_un retF)))) (f65_hw1_0 p1 n3 p4) = f65_w1b0N k (fun y0 => retF y0) (fun n3 p4 => NX_w1 (f65_hw1_0 p1 n3 p4)) p1 n3 p4 :=
  (f65_w1b0_mem k retF NX_w1 p1 n3 p4)

noncomputable def f65_w1B (k : Nat) (ret0 : PV → R) (p1 : PV) (nx : Int × PV → R) : Int × PV → R := (fun s => f65_w1b0N k ret0 (fun n3 p4 => nx (n3, p4)) p1 s.1 s.2)
noncomputable def f65_w1N (k : Nat) (ret0 : PV → R) (p1 : PV) (n3 : Int) (p4 : PV) : R := loopR (f65_w1B k ret0 p1) k (n3, p4)
theorem f65_w1_eq (k : Nat) (retF : PV → R) (p1 : PV) (n3 : Int) (p4 : PV) : f65_w1A k retF p1 n3 p4 = f65_w1N k (fun y0 => retF y0) p1 n3 p4 :=
  Eq.mp (by kernel_rfl) (loop_sim (E := (f65_E k)) (c := f65_cw1) (K := (kont (f65_E k) f65_code [1, 1, 0, 1, 0] (endK (f65_E k) Try.f65 [] f65_un retF))) (S := Int × PV) (fun s => f65_hw1_0 p1 s.1 s.2) (f65_w1B k (fun y0 => retF y0) p1) (fun NX s => by
    exact Eq.mp (by kernel_rfl) (f65_w1b0_eq k retF NX p1 s.1 s.2)) k (n3, p4))

noncomputable def f65_e (ret0 : PV → R) (w1 : Int → PV → R) (p1 : PV) : R :=
  w1 0 (PV.agg (List.replicate 256 (PV.bool false)))

theorem f65_e_mem (k : Nat) (retF : PV → R) (p1 : PV) : exec (f65_E k) f65_code (endK (f65_E k) Try.f65 [] f65_un retF) ⟨[.val 23 p1, .undef, .undef, .undef, .undef, .undef, .undef, .undef, .undef, .undef, .undef, .undef, .undef, .undef, .undef, .undef, .undef, .undef, .undef, .undef, .undef, .undef], []⟩ = f65_e (fun y0 => retF y0) (fun n3 p4 => f65_w1A k retF p1 n3 p4) p1 := by kernel_rfl

noncomputable def f65_N (k : Nat) (ret0 : PV → R) (p1 : PV) : R :=
  f65_e ret0 (fun n3 p4 => f65_w1N k ret0 p1 n3 p4) p1
theorem f65_eq (k : Nat) (retF : PV → R) (p1 : PV) : exec (f65_E k) f65_code (endK (f65_E k) Try.f65 [] f65_un retF) ⟨[.val 23 p1, .undef, .undef, .undef, .undef, .undef, .undef, .undef, .undef, .undef, .undef, .undef, .undef, .undef, .undef, .undef, .undef, .undef, .undef, .undef, .undef, .undef], []⟩ = f65_N k (fun y0 => retF y0) p1 :=
  (f65_e_mem k retF p1).trans (by rw [show (fun n3 p4 => f65_w1A k retF p1 n3 p4) = (fun n3 p4 => f65_w1N k (fun y0 => retF y0) p1 n3 p4) from funext fun n3 => funext fun p4 => f65_w1_eq k retF p1 n3 p4]; rfl)

noncomputable def G65 : Nat → PV → (PV → R) → R
  | 0, _, _ => none
  | k + 1, p1, ret0 => f65_N k  ret0 p1
theorem S65 : ∀ k, Snd Try.prog 65 f65_I f65_O (fun x ret => G65 k x (fun y0 => ret y0))
  | 0 => snd_none
  | k + 1 => snd_step (E := f65_E k ) rfl laidOut noNums orc0_ok (f := 65) (fn := Try.f65) (code := f65_code) Try.func65 (by kernel_rfl) (drawsOk_of laidOut orc0_ok mixed (by kernel_rfl)) f65_un f65_un_ok [] (fun _ => rfl)
      (fun x ret => f65_eq k  ret x)

/- catchpole/catchpolelaw1.own -/
noncomputable def f28_I : PV → List SV × Obs := fun x => ([.val 24 x], [])
noncomputable def f28_D : List SV → Obs → Option (PV)
  | [.val 24 p1], [] => some p1
  | _, _ => none
theorem f28_D_ok (args : List SV) (B : Obs) (x : PV) (h : f28_D args B = some x) : f28_I x = (args, B) := by
  unfold f28_D at h
  split at h
  · injection h with h; subst h; rfl
  · cases h
noncomputable def f28_O : PV → Out := (fun y => ([.val 45 y], []))
noncomputable def f28_un : Out → Option (PV)
  | ([.val 45 y0], []) => some y0
  | _ => none
theorem f28_un_ok (o : Out) (y : PV) (h : f28_un o = some y) : o = f28_O y := by
  unfold f28_un at h
  split at h
  · injection h with h; subst h; rfl
  · cases h
noncomputable def f28_msk : Nat → Option (List Nat) := fun key =>  none
noncomputable def f28_C (c65 : PV → (PV → R) → R) : Oracle := orc 65 f65_D f65_O (fun x ret => c65 x (fun y0 => ret y0)) <| orc0
noncomputable def f28_E (k : Nat) (c65 : PV → (PV → R) → R) : Env := { P := Try.prog, nilOwn := fun d => false, fldOwn := fun d i => false, ownPar := ownPars, ownRet := false, mask := f28_msk, fuel := k, C := f28_C c65 }
noncomputable def f28_code : Code := Try.f28.body.getD .skip
noncomputable def f28_e (c65 : PV → (PV → R) → R) (ret0 : PV → R) (p1 : PV) : R :=
  c65 p1 fun p2 =>
  ret0 p2

theorem f28_e_mem (k : Nat) (c65 : PV → (PV → R) → R) (retF : PV → R) (p1 : PV) : exec (f28_E k c65) f28_code (endK (f28_E k c65) Try.f28 [] f28_un retF) ⟨[.val 24 p1, .undef, .undef, .undef, .undef], []⟩ = f28_e c65 (fun y0 => retF y0) p1 := by kernel_rfl

noncomputable def f28_N (k : Nat) (c65 : PV → (PV → R) → R) (ret0 : PV → R) (p1 : PV) : R :=
  f28_e c65 ret0 p1
theorem f28_eq (k : Nat) (c65 : PV → (PV → R) → R) (retF : PV → R) (p1 : PV) : exec (f28_E k c65) f28_code (endK (f28_E k c65) Try.f28 [] f28_un retF) ⟨[.val 24 p1, .undef, .undef, .undef, .undef], []⟩ = f28_N k c65 (fun y0 => retF y0) p1 :=
  (f28_e_mem k c65 retF p1)

noncomputable def G28 : Nat → PV → (PV → R) → R
  | 0, _, _ => none
  | k + 1, p1, ret0 => f28_N k (G65 k) ret0 p1
theorem S28 : ∀ k, Snd Try.prog 28 f28_I f28_O (fun x ret => G28 k x (fun y0 => ret y0))
  | 0 => snd_none
  | k + 1 => snd_step (E := f28_E k (G65 k)) rfl laidOut noNums (orc_ok (S65 k).o f65_D_ok orc0_ok) (f := 28) (fn := Try.f28) (code := f28_code) Try.func28 (by kernel_rfl) (drawsOk_of laidOut (orc_ok (S65 k).o f65_D_ok orc0_ok) mixed (by kernel_rfl)) f28_un f28_un_ok [] (fun _ => rfl)
      (fun x ret => f28_eq k (G65 k) ret x)

/- catchpole/catchpoleref1.Of -/
noncomputable def f29_I : PV → List SV × Obs := fun x => ([.val 32 x], [])
noncomputable def f29_D : List SV → Obs → Option (PV)
  | [.val 32 p1], [] => some p1
  | _, _ => none
theorem f29_D_ok (args : List SV) (B : Obs) (x : PV) (h : f29_D args B = some x) : f29_I x = (args, B) := by
  unfold f29_D at h
  split at h
  · injection h with h; subst h; rfl
  · cases h
noncomputable def f29_O : PV → Out := (fun y => ([.val 45 y], []))
noncomputable def f29_un : Out → Option (PV)
  | ([.val 45 y0], []) => some y0
  | _ => none
theorem f29_un_ok (o : Out) (y : PV) (h : f29_un o = some y) : o = f29_O y := by
  unfold f29_un at h
  split at h
  · injection h with h; subst h; rfl
  · cases h
noncomputable def f29_msk : Nat → Option (List Nat) := fun key => bif key == 9 then some [0, 2, 3, 4] else none
noncomputable def f29_C : Oracle := orc0
noncomputable def f29_E (k : Nat) : Env := { P := Try.prog, nilOwn := fun d => false, fldOwn := fun d i => false, ownPar := ownPars, ownRet := false, mask := f29_msk, fuel := k, C := f29_C }
noncomputable def f29_code : Code := Try.f29.body.getD .skip
noncomputable def f29_cw1 : Code := subC f29_code [1, 1, 0, 1, 0, 0]
noncomputable def f29_hw1_0 (p1 : PV) (n3 : Int) (p4 : PV) : St := ⟨[.val 32 p1, .dead, .ptr 2 [], .ptr 3 [], .int .i64 n3, .dead, .dead, .dead, .dead, .dead, .dead, .dead, .dead, .dead, .dead, .dead, .dead], [(2, .box 45 (.val 45 (PV.agg (List.replicate 256 (PV.bool false))))), (3, .box 45 (.val 45 p4))]⟩
noncomputable def f29_w1A (k : Nat) (retF : PV → R) (p1 : PV) (n3 : Int) (p4 : PV) : R := loopM (f29_E k) f29_cw1 (kont (f29_E k) f29_code [1, 1, 0, 1, 0] (endK (f29_E k) Try.f29 [] f29_un retF)) k (f29_hw1_0 p1 n3 p4)
noncomputable def f29_w1b0 (ret0 : PV → R) (next_w1_0 : Int → PV → R) (p1 : PV) (n3 : Int) (p4 : PV) : R :=
  bif (decide (n3 < (List.length (PV.els p1) : Int))) then
    bif (true && decide ((0 : Int) ≤ n3) && decide (n3 < (List.length (PV.els p1) : Int))) then
      bif (true && decide ((0 : Int) ≤ (PV.num (List.getD (PV.els p1) (n3).toNat PV.nil))) && decide ((PV.num (List.getD (PV.els p1) (n3).toNat PV.nil)) < 256)) then
        let p5 : PV := (PV.agg (List.set (PV.flds p4) ((PV.num (List.getD (PV.els p1) (n3).toNat PV.nil))).toNat (PV.bool true)))
        next_w1_0 (IntKind.wrap .i64 (n3 + (1 : Int))) p5
      else none
    else none
  else ret0 p4

theorem f29_w1b0_mem (k : Nat) (retF : PV → R) (NX_w1 : St → R) (p1 : PV) (n3 : Int) (p4 : PV) : exec (f29_E k) f29_cw1 (purgeK (f29_E k) f29_cw1 (loopK NX_w1 (kont (f29_E k) f29_code [1, 1, 0, 1, 0] (endK (f29_E k) Try.f29 [] f29_un retF)))) (f29_hw1_0 p1 n3 p4) = f29_w1b0 (fun y0 => retF y0) (fun n3 p4 => NX_w1 (f29_hw1_0 p1 n3 p4)) p1 n3 p4 := by kernel_rfl

noncomputable def f29_w1b0N (k : Nat) (ret0 : PV → R) (next_w1_0 : Int → PV → R) (p1 : PV) (n3 : Int) (p4 : PV) : R :=
  f29_w1b0 ret0 next_w1_0 p1 n3 p4
theorem f29_w1b0_eq (k : Nat) (retF : PV → R) (NX_w1 : St → R) (p1 : PV) (n3 : Int) (p4 : PV) : exec (f29_E k) f29_cw1 (purgeK (f29_E k) f29_cw1 (loopK NX_w1 (kont (f29_E k) f29_code [1, 1, 0, 1, 0] (endK (f29_E k) Try.f29 [] f29_un retF)))) (f29_hw1_0 p1 n3 p4) = f29_w1b0N k (fun y0 => retF y0) (fun n3 p4 => NX_w1 (f29_hw1_0 p1 n3 p4)) p1 n3 p4 :=
  (f29_w1b0_mem k retF NX_w1 p1 n3 p4)

noncomputable def f29_w1B (k : Nat) (ret0 : PV → R) (p1 : PV) (nx : Int × PV → R) : Int × PV → R := (fun s => f29_w1b0N k ret0 (fun n3 p4 => nx (n3, p4)) p1 s.1 s.2)
noncomputable def f29_w1N (k : Nat) (ret0 : PV → R) (p1 : PV) (n3 : Int) (p4 : PV) : R := loopR (f29_w1B k ret0 p1) k (n3, p4)
theorem f29_w1_eq (k : Nat) (retF : PV → R) (p1 : PV) (n3 : Int) (p4 : PV) : f29_w1A k retF p1 n3 p4 = f29_w1N k (fun y0 => retF y0) p1 n3 p4 :=
  Eq.mp (by kernel_rfl) (loop_sim (E := (f29_E k)) (c := f29_cw1) (K := (kont (f29_E k) f29_code [1, 1, 0, 1, 0] (endK (f29_E k) Try.f29 [] f29_un retF))) (S := Int × PV) (fun s => f29_hw1_0 p1 s.1 s.2) (f29_w1B k (fun y0 => retF y0) p1) (fun NX s => by
    exact Eq.mp (by kernel_rfl) (f29_w1b0_eq k retF NX p1 s.1 s.2)) k (n3, p4))

noncomputable def f29_e (ret0 : PV → R) (w1 : Int → PV → R) (p1 : PV) : R :=
  w1 0 (PV.agg (List.replicate 256 (PV.bool false)))

theorem f29_e_mem (k : Nat) (retF : PV → R) (p1 : PV) : exec (f29_E k) f29_code (endK (f29_E k) Try.f29 [] f29_un retF) ⟨[.val 32 p1, .undef, .undef, .undef, .undef, .undef, .undef, .undef, .undef, .undef, .undef, .undef, .undef, .undef, .undef, .undef, .undef], []⟩ = f29_e (fun y0 => retF y0) (fun n3 p4 => f29_w1A k retF p1 n3 p4) p1 := by kernel_rfl

noncomputable def f29_N (k : Nat) (ret0 : PV → R) (p1 : PV) : R :=
  f29_e ret0 (fun n3 p4 => f29_w1N k ret0 p1 n3 p4) p1
theorem f29_eq (k : Nat) (retF : PV → R) (p1 : PV) : exec (f29_E k) f29_code (endK (f29_E k) Try.f29 [] f29_un retF) ⟨[.val 32 p1, .undef, .undef, .undef, .undef, .undef, .undef, .undef, .undef, .undef, .undef, .undef, .undef, .undef, .undef, .undef, .undef], []⟩ = f29_N k (fun y0 => retF y0) p1 :=
  (f29_e_mem k retF p1).trans (by rw [show (fun n3 p4 => f29_w1A k retF p1 n3 p4) = (fun n3 p4 => f29_w1N k (fun y0 => retF y0) p1 n3 p4) from funext fun n3 => funext fun p4 => f29_w1_eq k retF p1 n3 p4]; rfl)

noncomputable def G29 : Nat → PV → (PV → R) → R
  | 0, _, _ => none
  | k + 1, p1, ret0 => f29_N k  ret0 p1
theorem S29 : ∀ k, Snd Try.prog 29 f29_I f29_O (fun x ret => G29 k x (fun y0 => ret y0))
  | 0 => snd_none
  | k + 1 => snd_step (E := f29_E k ) rfl laidOut noNums orc0_ok (f := 29) (fn := Try.f29) (code := f29_code) Try.func29 (by kernel_rfl) (drawsOk_of laidOut orc0_ok mixed (by kernel_rfl)) f29_un f29_un_ok [] (fun _ => rfl)
      (fun x ret => f29_eq k  ret x)

/- catchpole/catchpoleref1.Range -/
noncomputable def f30_I : Int × Int → List SV × Obs := fun x => ([.int .i64 x.1, .int .i64 x.2], [])
noncomputable def f30_D : List SV → Obs → Option (Int × Int)
  | [.int .i64 n1, .int .i64 n2], [] => some (n1, n2)
  | _, _ => none
theorem f30_D_ok (args : List SV) (B : Obs) (x : Int × Int) (h : f30_D args B = some x) : f30_I x = (args, B) := by
  unfold f30_D at h
  split at h
  · injection h with h; subst h; rfl
  · cases h
noncomputable def f30_O : PV → Out := (fun y => ([.val 45 y], []))
noncomputable def f30_un : Out → Option (PV)
  | ([.val 45 y0], []) => some y0
  | _ => none
theorem f30_un_ok (o : Out) (y : PV) (h : f30_un o = some y) : o = f30_O y := by
  unfold f30_un at h
  split at h
  · injection h with h; subst h; rfl
  · cases h
noncomputable def f30_msk : Nat → Option (List Nat) := fun key => bif key == 9 then some [1, 4, 5, 6] else none
noncomputable def f30_C : Oracle := orc0
noncomputable def f30_E (k : Nat) : Env := { P := Try.prog, nilOwn := fun d => false, fldOwn := fun d i => false, ownPar := ownPars, ownRet := false, mask := f30_msk, fuel := k, C := f30_C }
noncomputable def f30_code : Code := Try.f30.body.getD .skip
noncomputable def f30_cw1 : Code := subC f30_code [1, 1, 0, 1, 0, 0]
noncomputable def f30_hw1_0 (n2 : Int) (n3 : Int) (p4 : PV) : St := ⟨[.dead, .int .i64 n2, .dead, .dead, .ptr 4 [], .ptr 5 [], .int .i64 n3, .dead, .dead, .dead, .dead, .dead, .dead, .dead, .dead, .dead], [(4, .box 45 (.val 45 (PV.agg (List.replicate 256 (PV.bool false))))), (5, .box 45 (.val 45 p4))]⟩
noncomputable def f30_w1A (k : Nat) (retF : PV → R) (n2 : Int) (n3 : Int) (p4 : PV) : R := loopM (f30_E k) f30_cw1 (kont (f30_E k) f30_code [1, 1, 0, 1, 0] (endK (f30_E k) Try.f30 [] f30_un retF)) k (f30_hw1_0 n2 n3 p4)
noncomputable def f30_w1b0 (ret0 : PV → R) (next_w1_0 : Int → PV → R) (n2 : Int) (n3 : Int) (p4 : PV) : R :=
  bif (decide (n3 ≤ n2)) then
    bif (true && decide ((0 : Int) ≤ n3) && decide (n3 < 256)) then
      next_w1_0 (IntKind.wrap .i64 (n3 + (1 : Int))) (PV.agg (List.set (PV.flds p4) (n3).toNat (PV.bool true)))
    else none
  else ret0 p4

theorem f30_w1b0_mem (k : Nat) (retF : PV → R) (NX_w1 : St → R) (n2 : Int) (n3 : Int) (p4 : PV) : exec (f30_E k) f30_cw1 (purgeK (f30_E k) f30_cw1 (loopK NX_w1 (kont (f30_E k) f30_code [1, 1, 0, 1, 0] (endK (f30_E k) Try.f30 [] f30_un retF)))) (f30_hw1_0 n2 n3 p4) = f30_w1b0 (fun y0 => retF y0) (fun n3 p4 => NX_w1 (f30_hw1_0 n2 n3 p4)) n2 n3 p4 := by kernel_rfl

noncomputable def f30_w1b0N (k : Nat) (ret0 : PV → R) (next_w1_0 : Int → PV → R) (n2 : Int) (n3 : Int) (p4 : PV) : R :=
  f30_w1b0 ret0 next_w1_0 n2 n3 p4
theorem f30_w1b0_eq (k : Nat) (retF : PV → R) (NX_w1 : St → R) (n2 : Int) (n3 : Int) (p4 : PV) : exec (f30_E k) f30_cw1 (purgeK (f30_E k) f30_cw1 (loopK NX_w1 (kont (f30_E k) f30_code [1, 1, 0, 1, 0] (endK (f30_E k) Try.f30 [] f30_un retF)))) (f30_hw1_0 n2 n3 p4) = f30_w1b0N k (fun y0 => retF y0) (fun n3 p4 => NX_w1 (f30_hw1_0 n2 n3 p4)) n2 n3 p4 :=
  (f30_w1b0_mem k retF NX_w1 n2 n3 p4)

noncomputable def f30_w1B (k : Nat) (ret0 : PV → R) (n2 : Int) (nx : Int × PV → R) : Int × PV → R := (fun s => f30_w1b0N k ret0 (fun n3 p4 => nx (n3, p4)) n2 s.1 s.2)
noncomputable def f30_w1N (k : Nat) (ret0 : PV → R) (n2 : Int) (n3 : Int) (p4 : PV) : R := loopR (f30_w1B k ret0 n2) k (n3, p4)
theorem f30_w1_eq (k : Nat) (retF : PV → R) (n2 : Int) (n3 : Int) (p4 : PV) : f30_w1A k retF n2 n3 p4 = f30_w1N k (fun y0 => retF y0) n2 n3 p4 :=
  Eq.mp (by kernel_rfl) (loop_sim (E := (f30_E k)) (c := f30_cw1) (K := (kont (f30_E k) f30_code [1, 1, 0, 1, 0] (endK (f30_E k) Try.f30 [] f30_un retF))) (S := Int × PV) (fun s => f30_hw1_0 n2 s.1 s.2) (f30_w1B k (fun y0 => retF y0) n2) (fun NX s => by
    exact Eq.mp (by kernel_rfl) (f30_w1b0_eq k retF NX n2 s.1 s.2)) k (n3, p4))

noncomputable def f30_e (ret0 : PV → R) (w1 : Int → PV → R) (n1 : Int) (n2 : Int) : R :=
  w1 n1 (PV.agg (List.replicate 256 (PV.bool false)))

theorem f30_e_mem (k : Nat) (retF : PV → R) (n1 : Int) (n2 : Int) : exec (f30_E k) f30_code (endK (f30_E k) Try.f30 [] f30_un retF) ⟨[.int .i64 n1, .int .i64 n2, .undef, .undef, .undef, .undef, .undef, .undef, .undef, .undef, .undef, .undef, .undef, .undef, .undef, .undef], []⟩ = f30_e (fun y0 => retF y0) (fun n3 p4 => f30_w1A k retF n2 n3 p4) n1 n2 := by kernel_rfl

noncomputable def f30_N (k : Nat) (ret0 : PV → R) (n1 : Int) (n2 : Int) : R :=
  f30_e ret0 (fun n3 p4 => f30_w1N k ret0 n2 n3 p4) n1 n2
theorem f30_eq (k : Nat) (retF : PV → R) (n1 : Int) (n2 : Int) : exec (f30_E k) f30_code (endK (f30_E k) Try.f30 [] f30_un retF) ⟨[.int .i64 n1, .int .i64 n2, .undef, .undef, .undef, .undef, .undef, .undef, .undef, .undef, .undef, .undef, .undef, .undef, .undef, .undef], []⟩ = f30_N k (fun y0 => retF y0) n1 n2 :=
  (f30_e_mem k retF n1 n2).trans (by rw [show (fun n3 p4 => f30_w1A k retF n2 n3 p4) = (fun n3 p4 => f30_w1N k (fun y0 => retF y0) n2 n3 p4) from funext fun n3 => funext fun p4 => f30_w1_eq k retF n2 n3 p4]; rfl)

noncomputable def G30 : Nat → Int → Int → (PV → R) → R
  | 0, _, _, _ => none
  | k + 1, n1, n2, ret0 => f30_N k  ret0 n1 n2
theorem S30 : ∀ k, Snd Try.prog 30 f30_I f30_O (fun x ret => G30 k x.1 x.2 (fun y0 => ret y0))
  | 0 => snd_none
  | k + 1 => snd_step (E := f30_E k ) rfl laidOut noNums orc0_ok (f := 30) (fn := Try.f30) (code := f30_code) Try.func30 (by kernel_rfl) (drawsOk_of laidOut orc0_ok mixed (by kernel_rfl)) f30_un f30_un_ok [] (fun _ => rfl)
      (fun x ret => f30_eq k  ret x.1 x.2)

/- catchpole/catchpoleref1.Or -/
noncomputable def f31_I : PV × PV → List SV × Obs := fun x => ([.val 45 x.1, .val 45 x.2], [])
noncomputable def f31_D : List SV → Obs → Option (PV × PV)
  | [.val 45 p1, .val 45 p2], [] => some (p1, p2)
  | _, _ => none
theorem f31_D_ok (args : List SV) (B : Obs) (x : PV × PV) (h : f31_D args B = some x) : f31_I x = (args, B) := by
  unfold f31_D at h
  split at h
  · injection h with h; subst h; rfl
  · cases h
noncomputable def f31_O : PV → Out := (fun y => ([.val 45 y], []))
noncomputable def f31_un : Out → Option (PV)
  | ([.val 45 y0], []) => some y0
  | _ => none
theorem f31_un_ok (o : Out) (y : PV) (h : f31_un o = some y) : o = f31_O y := by
  unfold f31_un at h
  split at h
  · injection h with h; subst h; rfl
  · cases h
noncomputable def f31_msk : Nat → Option (List Nat) := fun key => bif key == 6 then some [2, 3, 4, 5] else none
noncomputable def f31_C : Oracle := orc0
noncomputable def f31_E (k : Nat) : Env := { P := Try.prog, nilOwn := fun d => false, fldOwn := fun d i => false, ownPar := ownPars, ownRet := false, mask := f31_msk, fuel := k, C := f31_C }
noncomputable def f31_code : Code := Try.f31.body.getD .skip
noncomputable def f31_cw1 : Code := subC f31_code [1, 0, 1, 0, 0]
noncomputable def f31_hw1_0 (p2 : PV) (n3 : Int) (p4 : PV) : St := ⟨[.dead, .dead, .ptr 2 [], .ptr 3 [], .ptr 4 [], .int .i64 n3, .dead, .dead, .dead, .dead, .dead, .dead, .dead, .dead, .dead, .dead, .dead, .dead, .dead, .dead, .dead], [(2, .box 45 (.val 45 p4)), (3, .box 45 (.val 45 p2)), (4, .box 45 (.val 45 (PV.agg (List.replicate 256 (PV.bool false)))))]⟩
noncomputable def f31_w1A (k : Nat) (retF : PV → R) (p2 : PV) (n3 : Int) (p4 : PV) : R := loopM (f31_E k) f31_cw1 (kont (f31_E k) f31_code [1, 0, 1, 0] (endK (f31_E k) Try.f31 [] f31_un retF)) k (f31_hw1_0 p2 n3 p4)
noncomputable def f31_w1b0 (ret0 : PV → R) (next_w1_0 : Int → PV → R) (p2 : PV) (n3 : Int) (p4 : PV) : R :=
  bif (decide (n3 < (256 : Int))) then
    bif (true && decide ((0 : Int) ≤ n3) && decide (n3 < 256)) then
      bif ((PV.tt (PV.fld p4 (n3).toNat)) == false) then
        bif (true && decide ((0 : Int) ≤ n3) && decide (n3 < 256)) then
          bif (true && decide ((0 : Int) ≤ n3) && decide (n3 < 256)) then
            next_w1_0 (IntKind.wrap .i64 (n3 + (1 : Int))) (PV.agg (List.set (PV.flds p4) (n3).toNat (PV.bool (PV.tt (PV.fld p2 (n3).toNat)))))
          else none
        else none
      else bif (true && decide ((0 : Int) ≤ n3) && decide (n3 < 256)) then
        next_w1_0 (IntKind.wrap .i64 (n3 + (1 : Int))) (PV.agg (List.set (PV.flds p4) (n3).toNat (PV.bool true)))
      else none
    else none
  else ret0 p4

theorem f31_w1b0_mem (k : Nat) (retF : PV → R) (NX_w1 : St → R) (p2 : PV) (n3 : Int) (p4 : PV) : exec (f31_E k) f31_cw1 (purgeK (f31_E k) f31_cw1 (loopK NX_w1 (kont (f31_E k) f31_code [1, 0, 1, 0] (endK (f31_E k) Try.f31 [] f31_un retF)))) (f31_hw1_0 p2 n3 p4) = f31_w1b0 (fun y0 => retF y0) (fun n3 p4 => NX_w1 (f31_hw1_0 p2 n3 p4)) p2 n3 p4 := by kernel_rfl

noncomputable def f31_w1b0N (k : Nat) (ret0 : PV → R) (next_w1_0 : Int → PV → R) (p2 : PV) (n3 : Int) (p4 : PV) : R :=
  f31_w1b0 ret0 next_w1_0 p2 n3 p4
theorem f31_w1b0_eq (k : Nat) (retF : PV → R) (NX_w1 : St → R) (p2 : PV) (n3 : Int) (p4 : PV) : exec (f31_E k) f31_cw1 (purgeK (f31_E k) f31_cw1 (loopK NX_w1 (kont (f31_E k) f31_code [1, 0, 1, 0] (endK (f31_E k) Try.f31 [] f31_un retF)))) (f31_hw1_0 p2 n3 p4) = f31_w1b0N k (fun y0 => retF y0) (fun n3 p4 => NX_w1 (f31_hw1_0 p2 n3 p4)) p2 n3 p4 :=
  (f31_w1b0_mem k retF NX_w1 p2 n3 p4)

noncomputable def f31_w1B (k : Nat) (ret0 : PV → R) (p2 : PV) (nx : Int × PV → R) : Int × PV → R := (fun s => f31_w1b0N k ret0 (fun n3 p4 => nx (n3, p4)) p2 s.1 s.2)
noncomputable def f31_w1N (k : Nat) (ret0 : PV → R) (p2 : PV) (n3 : Int) (p4 : PV) : R := loopR (f31_w1B k ret0 p2) k (n3, p4)
theorem f31_w1_eq (k : Nat) (retF : PV → R) (p2 : PV) (n3 : Int) (p4 : PV) : f31_w1A k retF p2 n3 p4 = f31_w1N k (fun y0 => retF y0) p2 n3 p4 :=
  Eq.mp (by kernel_rfl) (loop_sim (E := (f31_E k)) (c := f31_cw1) (K := (kont (f31_E k) f31_code [1, 0, 1, 0] (endK (f31_E k) Try.f31 [] f31_un retF))) (S := Int × PV) (fun s => f31_hw1_0 p2 s.1 s.2) (f31_w1B k (fun y0 => retF y0) p2) (fun NX s => by
    exact Eq.mp (by kernel_rfl) (f31_w1b0_eq k retF NX p2 s.1 s.2)) k (n3, p4))

noncomputable def f31_e (ret0 : PV → R) (w1 : Int → PV → R) (p1 : PV) (p2 : PV) : R :=
  w1 0 p1

theorem f31_e_mem (k : Nat) (retF : PV → R) (p1 : PV) (p2 : PV) : exec (f31_E k) f31_code (endK (f31_E k) Try.f31 [] f31_un retF) ⟨[.val 45 p1, .val 45 p2, .undef, .undef, .undef, .undef, .undef, .undef, .undef, .undef, .undef, .undef, .undef, .undef, .undef, .undef, .undef, .undef, .undef, .undef, .undef], []⟩ = f31_e (fun y0 => retF y0) (fun n3 p4 => f31_w1A k retF p2 n3 p4) p1 p2 := by kernel_rfl

noncomputable def f31_N (k : Nat) (ret0 : PV → R) (p1 : PV) (p2 : PV) : R :=
  f31_e ret0 (fun n3 p4 => f31_w1N k ret0 p2 n3 p4) p1 p2
theorem f31_eq (k : Nat) (retF : PV → R) (p1 : PV) (p2 : PV) : exec (f31_E k) f31_code (endK (f31_E k) Try.f31 [] f31_un retF) ⟨[.val 45 p1, .val 45 p2, .undef, .undef, .undef, .undef, .undef, .undef, .undef, .undef, .undef, .undef, .undef, .undef, .undef, .undef, .undef, .undef, .undef, .undef, .undef], []⟩ = f31_N k (fun y0 => retF y0) p1 p2 :=
  (f31_e_mem k retF p1 p2).trans (by rw [show (fun n3 p4 => f31_w1A k retF p2 n3 p4) = (fun n3 p4 => f31_w1N k (fun y0 => retF y0) p2 n3 p4) from funext fun n3 => funext fun p4 => f31_w1_eq k retF p2 n3 p4]; rfl)

noncomputable def G31 : Nat → PV → PV → (PV → R) → R
  | 0, _, _, _ => none
  | k + 1, p1, p2, ret0 => f31_N k  ret0 p1 p2
theorem S31 : ∀ k, Snd Try.prog 31 f31_I f31_O (fun x ret => G31 k x.1 x.2 (fun y0 => ret y0))
  | 0 => snd_none
  | k + 1 => snd_step (E := f31_E k ) rfl laidOut noNums orc0_ok (f := 31) (fn := Try.f31) (code := f31_code) Try.func31 (by kernel_rfl) (drawsOk_of laidOut orc0_ok mixed (by kernel_rfl)) f31_un f31_un_ok [] (fun _ => rfl)
      (fun x ret => f31_eq k  ret x.1 x.2)

/- catchpole/catchpoleref1.And -/
noncomputable def f32_I : PV × PV → List SV × Obs := fun x => ([.val 45 x.1, .val 45 x.2], [])
noncomputable def f32_D : List SV → Obs → Option (PV × PV)
  | [.val 45 p1, .val 45 p2], [] => some (p1, p2)
  | _, _ => none
theorem f32_D_ok (args : List SV) (B : Obs) (x : PV × PV) (h : f32_D args B = some x) : f32_I x = (args, B) := by
  unfold f32_D at h
  split at h
  · injection h with h; subst h; rfl
  · cases h
noncomputable def f32_O : PV → Out := (fun y => ([.val 45 y], []))
noncomputable def f32_un : Out → Option (PV)
  | ([.val 45 y0], []) => some y0
  | _ => none
theorem f32_un_ok (o : Out) (y : PV) (h : f32_un o = some y) : o = f32_O y := by
  unfold f32_un at h
  split at h
  · injection h with h; subst h; rfl
  · cases h
noncomputable def f32_msk : Nat → Option (List Nat) := fun key => bif key == 6 then some [2, 3, 4, 5] else none
noncomputable def f32_C : Oracle := orc0
noncomputable def f32_E (k : Nat) : Env := { P := Try.prog, nilOwn := fun d => false, fldOwn := fun d i => false, ownPar := ownPars, ownRet := false, mask := f32_msk, fuel := k, C := f32_C }
noncomputable def f32_code : Code := Try.f32.body.getD .skip
noncomputable def f32_cw1 : Code := subC f32_code [1, 0, 1, 0, 0]
noncomputable def f32_hw1_0 (p2 : PV) (n3 : Int) (p4 : PV) : St := ⟨[.dead, .dead, .ptr 2 [], .ptr 3 [], .ptr 4 [], .int .i64 n3, .dead, .dead, .dead, .dead, .dead, .dead, .dead, .dead, .dead, .dead, .dead, .dead, .dead, .dead, .dead], [(2, .box 45 (.val 45 p4)), (3, .box 45 (.val 45 p2)), (4, .box 45 (.val 45 (PV.agg (List.replicate 256 (PV.bool false)))))]⟩
noncomputable def f32_w1A (k : Nat) (retF : PV → R) (p2 : PV) (n3 : Int) (p4 : PV) : R := loopM (f32_E k) f32_cw1 (kont (f32_E k) f32_code [1, 0, 1, 0] (endK (f32_E k) Try.f32 [] f32_un retF)) k (f32_hw1_0 p2 n3 p4)
noncomputable def f32_w1b0 (ret0 : PV → R) (next_w1_0 : Int → PV → R) (p2 : PV) (n3 : Int) (p4 : PV) : R :=
  bif (decide (n3 < (256 : Int))) then
    bif (true && decide ((0 : Int) ≤ n3) && decide (n3 < 256)) then
      bif ((PV.tt (PV.fld p4 (n3).toNat)) == true) then
        bif (true && decide ((0 : Int) ≤ n3) && decide (n3 < 256)) then
          bif (true && decide ((0 : Int) ≤ n3) && decide (n3 < 256)) then
            next_w1_0 (IntKind.wrap .i64 (n3 + (1 : Int))) (PV.agg (List.set (PV.flds p4) (n3).toNat (PV.bool (PV.tt (PV.fld p2 (n3).toNat)))))
          else none
        else none
      else bif (true && decide ((0 : Int) ≤ n3) && decide (n3 < 256)) then
        next_w1_0 (IntKind.wrap .i64 (n3 + (1 : Int))) (PV.agg (List.set (PV.flds p4) (n3).toNat (PV.bool false)))
      else none
    else none
  else ret0 p4

theorem f32_w1b0_mem (k : Nat) (retF : PV → R) (NX_w1 : St → R) (p2 : PV) (n3 : Int) (p4 : PV) : exec (f32_E k) f32_cw1 (purgeK (f32_E k) f32_cw1 (loopK NX_w1 (kont (f32_E k) f32_code [1, 0, 1, 0] (endK (f32_E k) Try.f32 [] f32_un retF)))) (f32_hw1_0 p2 n3 p4) = f32_w1b0 (fun y0 => retF y0) (fun n3 p4 => NX_w1 (f32_hw1_0 p2 n3 p4)) p2 n3 p4 := by kernel_rfl

noncomputable def f32_w1b0N (k : Nat) (ret0 : PV → R) (next_w1_0 : Int → PV → R) (p2 : PV) (n3 : Int) (p4 : PV) : R :=
  f32_w1b0 ret0 next_w1_0 p2 n3 p4
theorem f32_w1b0_eq (k : Nat) (retF : PV → R) (NX_w1 : St → R) (p2 : PV) (n3 : Int) (p4 : PV) : exec (f32_E k) f32_cw1 (purgeK (f32_E k) f32_cw1 (loopK NX_w1 (kont (f32_E k) f32_code [1, 0, 1, 0] (endK (f32_E k) Try.f32 [] f32_un retF)))) (f32_hw1_0 p2 n3 p4) = f32_w1b0N k (fun y0 => retF y0) (fun n3 p4 => NX_w1 (f32_hw1_0 p2 n3 p4)) p2 n3 p4 :=
  (f32_w1b0_mem k retF NX_w1 p2 n3 p4)

noncomputable def f32_w1B (k : Nat) (ret0 : PV → R) (p2 : PV) (nx : Int × PV → R) : Int × PV → R := (fun s => f32_w1b0N k ret0 (fun n3 p4 => nx (n3, p4)) p2 s.1 s.2)
noncomputable def f32_w1N (k : Nat) (ret0 : PV → R) (p2 : PV) (n3 : Int) (p4 : PV) : R := loopR (f32_w1B k ret0 p2) k (n3, p4)
theorem f32_w1_eq (k : Nat) (retF : PV → R) (p2 : PV) (n3 : Int) (p4 : PV) : f32_w1A k retF p2 n3 p4 = f32_w1N k (fun y0 => retF y0) p2 n3 p4 :=
  Eq.mp (by kernel_rfl) (loop_sim (E := (f32_E k)) (c := f32_cw1) (K := (kont (f32_E k) f32_code [1, 0, 1, 0] (endK (f32_E k) Try.f32 [] f32_un retF))) (S := Int × PV) (fun s => f32_hw1_0 p2 s.1 s.2) (f32_w1B k (fun y0 => retF y0) p2) (fun NX s => by
    exact Eq.mp (by kernel_rfl) (f32_w1b0_eq k retF NX p2 s.1 s.2)) k (n3, p4))

noncomputable def f32_e (ret0 : PV → R) (w1 : Int → PV → R) (p1 : PV) (p2 : PV) : R :=
  w1 0 p1

theorem f32_e_mem (k : Nat) (retF : PV → R) (p1 : PV) (p2 : PV) : exec (f32_E k) f32_code (endK (f32_E k) Try.f32 [] f32_un retF) ⟨[.val 45 p1, .val 45 p2, .undef, .undef, .undef, .undef, .undef, .undef, .undef, .undef, .undef, .undef, .undef, .undef, .undef, .undef, .undef, .undef, .undef, .undef, .undef], []⟩ = f32_e (fun y0 => retF y0) (fun n3 p4 => f32_w1A k retF p2 n3 p4) p1 p2 := by kernel_rfl

noncomputable def f32_N (k : Nat) (ret0 : PV → R) (p1 : PV) (p2 : PV) : R :=
  f32_e ret0 (fun n3 p4 => f32_w1N k ret0 p2 n3 p4) p1 p2
theorem f32_eq (k : Nat) (retF : PV → R) (p1 : PV) (p2 : PV) : exec (f32_E k) f32_code (endK (f32_E k) Try.f32 [] f32_un retF) ⟨[.val 45 p1, .val 45 p2, .undef, .undef, .undef, .undef, .undef, .undef, .undef, .undef, .undef, .undef, .undef, .undef, .undef, .undef, .undef, .undef, .undef, .undef, .undef], []⟩ = f32_N k (fun y0 => retF y0) p1 p2 :=
  (f32_e_mem k retF p1 p2).trans (by rw [show (fun n3 p4 => f32_w1A k retF p2 n3 p4) = (fun n3 p4 => f32_w1N k (fun y0 => retF y0) p2 n3 p4) from funext fun n3 => funext fun p4 => f32_w1_eq k retF p2 n3 p4]; rfl)

noncomputable def G32 : Nat → PV → PV → (PV → R) → R
  | 0, _, _, _ => none
  | k + 1, p1, p2, ret0 => f32_N k  ret0 p1 p2
theorem S32 : ∀ k, Snd Try.prog 32 f32_I f32_O (fun x ret => G32 k x.1 x.2 (fun y0 => ret y0))
  | 0 => snd_none
  | k + 1 => snd_step (E := f32_E k ) rfl laidOut noNums orc0_ok (f := 32) (fn := Try.f32) (code := f32_code) Try.func32 (by kernel_rfl) (drawsOk_of laidOut orc0_ok mixed (by kernel_rfl)) f32_un f32_un_ok [] (fun _ => rfl)
      (fun x ret => f32_eq k  ret x.1 x.2)

/- catchpole/catchpoleref1.Not -/
noncomputable def f33_I : PV → List SV × Obs := fun x => ([.val 45 x], [])
noncomputable def f33_D : List SV → Obs → Option (PV)
  | [.val 45 p1], [] => some p1
  | _, _ => none
theorem f33_D_ok (args : List SV) (B : Obs) (x : PV) (h : f33_D args B = some x) : f33_I x = (args, B) := by
  unfold f33_D at h
  split at h
  · injection h with h; subst h; rfl
  · cases h
noncomputable def f33_O : PV → Out := (fun y => ([.val 45 y], []))
noncomputable def f33_un : Out → Option (PV)
  | ([.val 45 y0], []) => some y0
  | _ => none
theorem f33_un_ok (o : Out) (y : PV) (h : f33_un o = some y) : o = f33_O y := by
  unfold f33_un at h
  split at h
  · injection h with h; subst h; rfl
  · cases h
noncomputable def f33_msk : Nat → Option (List Nat) := fun key => bif key == 6 then some [1, 2, 3] else none
noncomputable def f33_C : Oracle := orc0
noncomputable def f33_E (k : Nat) : Env := { P := Try.prog, nilOwn := fun d => false, fldOwn := fun d i => false, ownPar := ownPars, ownRet := false, mask := f33_msk, fuel := k, C := f33_C }
noncomputable def f33_code : Code := Try.f33.body.getD .skip
noncomputable def f33_cw1 : Code := subC f33_code [1, 0, 1, 0, 0]
noncomputable def f33_hw1_0 (n2 : Int) (p3 : PV) : St := ⟨[.dead, .ptr 1 [], .ptr 2 [], .int .i64 n2, .dead, .dead, .dead, .dead, .dead, .dead, .dead, .dead, .dead, .dead, .dead], [(1, .box 45 (.val 45 p3)), (2, .box 45 (.val 45 (PV.agg (List.replicate 256 (PV.bool false)))))]⟩
noncomputable def f33_w1A (k : Nat) (retF : PV → R) (n2 : Int) (p3 : PV) : R := loopM (f33_E k) f33_cw1 (kont (f33_E k) f33_code [1, 0, 1, 0] (endK (f33_E k) Try.f33 [] f33_un retF)) k (f33_hw1_0 n2 p3)
noncomputable def f33_w1b0 (ret0 : PV → R) (next_w1_0 : Int → PV → R) (n2 : Int) (p3 : PV) : R :=
  bif (decide (n2 < (256 : Int))) then
    bif (true && decide ((0 : Int) ≤ n2) && decide (n2 < 256)) then
      bif (true && decide ((0 : Int) ≤ n2) && decide (n2 < 256)) then
        next_w1_0 (IntKind.wrap .i64 (n2 + (1 : Int))) (PV.agg (List.set (PV.flds p3) (n2).toNat (PV.bool (!(PV.tt (PV.fld p3 (n2).toNat))))))
      else none
    else none
  else ret0 p3

theorem f33_w1b0_mem (k : Nat) (retF : PV → R) (NX_w1 : St → R) (n2 : Int) (p3 : PV) : exec (f33_E k) f33_cw1 (purgeK (f33_E k) f33_cw1 (loopK NX_w1 (kont (f33_E k) f33_code [1, 0, 1, 0] (endK (f33_E k) Try.f33 [] f33_un retF)))) (f33_hw1_0 n2 p3) = f33_w1b0 (fun y0 => retF y0) (fun n2 p3 => NX_w1 (f33_hw1_0 n2 p3)) n2 p3 := by kernel_rfl

noncomputable def f33_w1b0N (k : Nat) (ret0 : PV → R) (next_w1_0 : Int → PV → R) (n2 : Int) (p3 : PV) : R :=
  f33_w1b0 ret0 next_w1_0 n2 p3
theorem f33_w1b0_eq (k : Nat) (retF : PV → R) (NX_w1 : St → R) (n2 : Int) (p3 : PV) : exec (f33_E k) f33_cw1 (purgeK (f33_E k) f33_cw1 (loopK NX_w1 (kont (f33_E k) f33_code [1, 0, 1, 0] (endK (f33_E k) Try.f33 [] f33_un retF)))) (f33_hw1_0 n2 p3) = f33_w1b0N k (fun y0 => retF y0) (fun n2 p3 => NX_w1 (f33_hw1_0 n2 p3)) n2 p3 :=
  (f33_w1b0_mem k retF NX_w1 n2 p3)

noncomputable def f33_w1B (k : Nat) (ret0 : PV → R) (nx : Int × PV → R) : Int × PV → R := (fun s => f33_w1b0N k ret0 (fun n2 p3 => nx (n2, p3)) s.1 s.2)
noncomputable def f33_w1N (k : Nat) (ret0 : PV → R) (n2 : Int) (p3 : PV) : R := loopR (f33_w1B k ret0) k (n2, p3)
theorem f33_w1_eq (k : Nat) (retF : PV → R) (n2 : Int) (p3 : PV) : f33_w1A k retF n2 p3 = f33_w1N k (fun y0 => retF y0) n2 p3 :=
  Eq.mp (by kernel_rfl) (loop_sim (E := (f33_E k)) (c := f33_cw1) (K := (kont (f33_E k) f33_code [1, 0, 1, 0] (endK (f33_E k) Try.f33 [] f33_un retF))) (S := Int × PV) (fun s => f33_hw1_0 s.1 s.2) (f33_w1B k (fun y0 => retF y0)) (fun NX s => by
    exact Eq.mp (by kernel_rfl) (f33_w1b0_eq k retF NX s.1 s.2)) k (n2, p3))

noncomputable def f33_e (ret0 : PV → R) (w1 : Int → PV → R) (p1 : PV) : R :=
  w1 0 p1

theorem f33_e_mem (k : Nat) (retF : PV → R) (p1 : PV) : exec (f33_E k) f33_code (endK (f33_E k) Try.f33 [] f33_un retF) ⟨[.val 45 p1, .undef, .undef, .undef, .undef, .undef, .undef, .undef, .undef, .undef, .undef, .undef, .undef, .undef, .undef], []⟩ = f33_e (fun y0 => retF y0) (fun n2 p3 => f33_w1A k retF n2 p3) p1 := by kernel_rfl

noncomputable def f33_N (k : Nat) (ret0 : PV → R) (p1 : PV) : R :=
  f33_e ret0 (fun n2 p3 => f33_w1N k ret0 n2 p3) p1
theorem f33_eq (k : Nat) (retF : PV → R) (p1 : PV) : exec (f33_E k) f33_code (endK (f33_E k) Try.f33 [] f33_un retF) ⟨[.val 45 p1, .undef, .undef, .undef, .undef, .undef, .undef, .undef, .undef, .undef, .undef, .undef, .undef, .undef, .undef], []⟩ = f33_N k (fun y0 => retF y0) p1 :=
  (f33_e_mem k retF p1).trans (by rw [show (fun n2 p3 => f33_w1A k retF n2 p3) = (fun n2 p3 => f33_w1N k (fun y0 => retF y0) n2 p3) from funext fun n2 => funext fun p3 => f33_w1_eq k retF n2 p3]; rfl)

noncomputable def G33 : Nat → PV → (PV → R) → R
  | 0, _, _ => none
  | k + 1, p1, ret0 => f33_N k  ret0 p1
theorem S33 : ∀ k, Snd Try.prog 33 f33_I f33_O (fun x ret => G33 k x (fun y0 => ret y0))
  | 0 => snd_none
  | k + 1 => snd_step (E := f33_E k ) rfl laidOut noNums orc0_ok (f := 33) (fn := Try.f33) (code := f33_code) Try.func33 (by kernel_rfl) (drawsOk_of laidOut orc0_ok mixed (by kernel_rfl)) f33_un f33_un_ok [] (fun _ => rfl)
      (fun x ret => f33_eq k  ret x)

/- catchpole/catchpoleref1.List -/
noncomputable def f35_I : PV → List SV × Obs := fun x => ([.val 45 x], [])
noncomputable def f35_D : List SV → Obs → Option (PV)
  | [.val 45 p1], [] => some p1
  | _, _ => none
theorem f35_D_ok (args : List SV) (B : Obs) (x : PV) (h : f35_D args B = some x) : f35_I x = (args, B) := by
  unfold f35_D at h
  split at h
  · injection h with h; subst h; rfl
  · cases h
noncomputable def f35_O : PV → Out := (fun y => ([.val 32 y], []))
noncomputable def f35_un : Out → Option (PV)
  | ([.val 32 y0], []) => some y0
  | _ => none
theorem f35_un_ok (o : Out) (y : PV) (h : f35_un o = some y) : o = f35_O y := by
  unfold f35_un at h
  split at h
  · injection h with h; subst h; rfl
  · cases h
noncomputable def f35_msk : Nat → Option (List Nat) := fun key => bif key == 9 then some [1, 3, 4] else none
noncomputable def f35_C : Oracle := orc0
noncomputable def f35_E (k : Nat) : Env := { P := Try.prog, nilOwn := fun d => d == 3, fldOwn := fun d i => false, ownPar := ownPars, ownRet := false, mask := f35_msk, fuel := k, C := f35_C }
noncomputable def f35_code : Code := Try.f35.body.getD .skip
noncomputable def f35_cw1 : Code := subC f35_code [1, 1, 0, 1, 0, 0]
noncomputable def f35_hw1_0 (p1 : PV) (n2 : Int) (l3 : List PV) : St := ⟨[.dead, .ptr 1 [], .dead, .own 32 3, .int .i64 n2, .dead, .dead, .dead, .dead, .dead, .dead, .dead, .dead, .dead, .dead, .dead, .dead, .dead], [(1, .box 45 (.val 45 p1)), (3, .row 5 l3)]⟩
noncomputable def f35_w1A (k : Nat) (retF : PV → R) (p1 : PV) (n2 : Int) (l3 : List PV) : R := loopM (f35_E k) f35_cw1 (kont (f35_E k) f35_code [1, 1, 0, 1, 0] (endK (f35_E k) Try.f35 [] f35_un retF)) k (f35_hw1_0 p1 n2 l3)
noncomputable def f35_w1b0 (ret0 : PV → R) (next_w1_0 : Int → (List PV) → R) (p1 : PV) (n2 : Int) (l3 : List PV) : R :=
  bif (decide (n2 < (256 : Int))) then
    bif (true && decide ((0 : Int) ≤ n2) && decide (n2 < 256)) then
      bif (PV.tt (PV.fld p1 (n2).toNat)) then
        bif (true && roomy (List.length l3 + List.length [(PV.int (IntKind.wrap .u8 n2))]) 1) then
          next_w1_0 (IntKind.wrap .i64 (n2 + (1 : Int))) (l3 ++ [(PV.int (IntKind.wrap .u8 n2))])
        else none
      else next_w1_0 (IntKind.wrap .i64 (n2 + (1 : Int))) l3
    else none
  else ret0 (PV.list l3)

theorem f35_w1b0_mem (k : Nat) (retF : PV → R) (NX_w1 : St → R) (p1 : PV) (n2 : Int) (l3 : List PV) : exec (f35_E k) f35_cw1 (purgeK (f35_E k) f35_cw1 (loopK NX_w1 (kont (f35_E k) f35_code [1, 1, 0, 1, 0] (endK (f35_E k) Try.f35 [] f35_un retF)))) (f35_hw1_0 p1 n2 l3) = f35_w1b0 (fun y0 => retF y0) (fun n2 l3 => NX_w1 (f35_hw1_0 p1 n2 l3)) p1 n2 l3 := by kernel_rfl

noncomputable def f35_w1b0N (k : Nat) (ret0 : PV → R) (next_w1_0 : Int → (List PV) → R) (p1 : PV) (n2 : Int) (l3 : List PV) : R :=
  f35_w1b0 ret0 next_w1_0 p1 n2 l3
theorem f35_w1b0_eq (k : Nat) (retF : PV → R) (NX_w1 : St → R) (p1 : PV) (n2 : Int) (l3 : List PV) : exec (f35_E k) f35_cw1 (purgeK (f35_E k) f35_cw1 (loopK NX_w1 (kont (f35_E k) f35_code [1, 1, 0, 1, 0] (endK (f35_E k) Try.f35 [] f35_un retF)))) (f35_hw1_0 p1 n2 l3) = f35_w1b0N k (fun y0 => retF y0) (fun n2 l3 => NX_w1 (f35_hw1_0 p1 n2 l3)) p1 n2 l3 :=
  (f35_w1b0_mem k retF NX_w1 p1 n2 l3)

noncomputable def f35_w1B (k : Nat) (ret0 : PV → R) (p1 : PV) (nx : Int × (List PV) → R) : Int × (List PV) → R := (fun s => f35_w1b0N k ret0 (fun n2 l3 => nx (n2, l3)) p1 s.1 s.2)
noncomputable def f35_w1N (k : Nat) (ret0 : PV → R) (p1 : PV) (n2 : Int) (l3 : List PV) : R := loopR (f35_w1B k ret0 p1) k (n2, l3)
theorem f35_w1_eq (k : Nat) (retF : PV → R) (p1 : PV) (n2 : Int) (l3 : List PV) : f35_w1A k retF p1 n2 l3 = f35_w1N k (fun y0 => retF y0) p1 n2 l3 :=
  Eq.mp (by kernel_rfl) (loop_sim (E := (f35_E k)) (c := f35_cw1) (K := (kont (f35_E k) f35_code [1, 1, 0, 1, 0] (endK (f35_E k) Try.f35 [] f35_un retF))) (S := Int × (List PV)) (fun s => f35_hw1_0 p1 s.1 s.2) (f35_w1B k (fun y0 => retF y0) p1) (fun NX s => by
    exact Eq.mp (by kernel_rfl) (f35_w1b0_eq k retF NX p1 s.1 s.2)) k (n2, l3))

noncomputable def f35_e (ret0 : PV → R) (w1 : Int → (List PV) → R) (p1 : PV) : R :=
  w1 0 []

theorem f35_e_mem (k : Nat) (retF : PV → R) (p1 : PV) : exec (f35_E k) f35_code (endK (f35_E k) Try.f35 [] f35_un retF) ⟨[.val 45 p1, .undef, .undef, .undef, .undef, .undef, .undef, .undef, .undef, .undef, .undef, .undef, .undef, .undef, .undef, .undef, .undef, .undef], []⟩ = f35_e (fun y0 => retF y0) (fun n2 l3 => f35_w1A k retF p1 n2 l3) p1 := by kernel_rfl

noncomputable def f35_N (k : Nat) (ret0 : PV → R) (p1 : PV) : R :=
  f35_e ret0 (fun n2 l3 => f35_w1N k ret0 p1 n2 l3) p1
theorem f35_eq (k : Nat) (retF : PV → R) (p1 : PV) : exec (f35_E k) f35_code (endK (f35_E k) Try.f35 [] f35_un retF) ⟨[.val 45 p1, .undef, .undef, .undef, .undef, .undef, .undef, .undef, .undef, .undef, .undef, .undef, .undef, .undef, .undef, .undef, .undef, .undef], []⟩ = f35_N k (fun y0 => retF y0) p1 :=
  (f35_e_mem k retF p1).trans (by rw [show (fun n2 l3 => f35_w1A k retF p1 n2 l3) = (fun n2 l3 => f35_w1N k (fun y0 => retF y0) p1 n2 l3) from funext fun n2 => funext fun l3 => f35_w1_eq k retF p1 n2 l3]; rfl)

noncomputable def G35 : Nat → PV → (PV → R) → R
  | 0, _, _ => none
  | k + 1, p1, ret0 => f35_N k  ret0 p1
theorem S35 : ∀ k, Snd Try.prog 35 f35_I f35_O (fun x ret => G35 k x (fun y0 => ret y0))
  | 0 => snd_none
  | k + 1 => snd_step (E := f35_E k ) rfl laidOut noNums orc0_ok (f := 35) (fn := Try.f35) (code := f35_code) Try.func35 (by kernel_rfl) (drawsOk_of laidOut orc0_ok mixed (by kernel_rfl)) f35_un f35_un_ok [] (fun _ => rfl)
      (fun x ret => f35_eq k  ret x)

/- catchpole/catchpoleref1.Cmp -/
noncomputable def f34_I : PV × PV → List SV × Obs := fun x => ([.val 45 x.1, .val 45 x.2], [])
noncomputable def f34_D : List SV → Obs → Option (PV × PV)
  | [.val 45 p1, .val 45 p2], [] => some (p1, p2)
  | _, _ => none
theorem f34_D_ok (args : List SV) (B : Obs) (x : PV × PV) (h : f34_D args B = some x) : f34_I x = (args, B) := by
  unfold f34_D at h
  split at h
  · injection h with h; subst h; rfl
  · cases h
noncomputable def f34_O : Int → Out := (fun y => ([.int .i64 y], []))
noncomputable def f34_un : Out → Option (Int)
  | ([.int .i64 y0], []) => some y0
  | _ => none
theorem f34_un_ok (o : Out) (y : Int) (h : f34_un o = some y) : o = f34_O y := by
  unfold f34_un at h
  split at h
  · injection h with h; subst h; rfl
  · cases h
noncomputable def f34_msk : Nat → Option (List Nat) := fun key =>  none
noncomputable def f34_C (c35 : PV → (PV → R) → R) : Oracle := orc 35 f35_D f35_O (fun x ret => c35 x (fun y0 => ret y0)) <| orc0
noncomputable def f34_E (k : Nat) (c35 : PV → (PV → R) → R) : Env := { P := Try.prog, nilOwn := fun d => false, fldOwn := fun d i => false, ownPar := ownPars, ownRet := false, mask := f34_msk, fuel := k, C := f34_C c35 }
noncomputable def f34_code : Code := Try.f34.body.getD .skip
noncomputable def f34_e (c35 : PV → (PV → R) → R) (ret0 : Int → R) (p1 : PV) (p2 : PV) : R :=
  c35 p1 fun p3 =>
  c35 p2 fun p4 =>
  bif (lexLt (List.map PV.num (PV.els p3)) (List.map PV.num (PV.els p4))) then
    ret0 (-1)
  else let b5 : Bool := (!((lexLt (List.map PV.num (PV.els p3)) (List.map PV.num (PV.els p4))) || (decide (((List.map PV.num (PV.els p3)) : List Int) = (List.map PV.num (PV.els p4))))))
  bif b5 then
    ret0 1
  else ret0 0

theorem f34_e_mem (k : Nat) (c35 : PV → (PV → R) → R) (retF : Int → R) (p1 : PV) (p2 : PV) : exec (f34_E k c35) f34_code (endK (f34_E k c35) Try.f34 [] f34_un retF) ⟨[.val 45 p1, .val 45 p2, .undef, .undef, .undef, .undef, .undef, .undef, .undef, .undef, .undef, .undef, .undef, .undef, .undef, .undef, .undef, .undef, .undef], []⟩ = f34_e c35 (fun y0 => retF y0) p1 p2 := by kernel_rfl

noncomputable def f34_N (k : Nat) (c35 : PV → (PV → R) → R) (ret0 : Int → R) (p1 : PV) (p2 : PV) : R :=
  f34_e c35 ret0 p1 p2
theorem f34_eq (k : Nat) (c35 : PV → (PV → R) → R) (retF : Int → R) (p1 : PV) (p2 : PV) : exec (f34_E k c35) f34_code (endK (f34_E k c35) Try.f34 [] f34_un retF) ⟨[.val 45 p1, .val 45 p2, .undef, .undef, .undef, .undef, .undef, .undef, .undef, .undef, .undef, .undef, .undef, .undef, .undef, .undef, .undef, .undef, .undef], []⟩ = f34_N k c35 (fun y0 => retF y0) p1 p2 :=
  (f34_e_mem k c35 retF p1 p2)

noncomputable def G34 : Nat → PV → PV → (Int → R) → R
  | 0, _, _, _ => none
  | k + 1, p1, p2, ret0 => f34_N k (G35 k) ret0 p1 p2
theorem S34 : ∀ k, Snd Try.prog 34 f34_I f34_O (fun x ret => G34 k x.1 x.2 (fun y0 => ret y0))
  | 0 => snd_none
  | k + 1 => snd_step (E := f34_E k (G35 k)) rfl laidOut noNums (orc_ok (S35 k).o f35_D_ok orc0_ok) (f := 34) (fn := Try.f34) (code := f34_code) Try.func34 (by kernel_rfl) (drawsOk_of laidOut (orc_ok (S35 k).o f35_D_ok orc0_ok) mixed (by kernel_rfl)) f34_un f34_un_ok [] (fun _ => rfl)
      (fun x ret => f34_eq k (G35 k) ret x.1 x.2)

/- catchpole/catchpoleref1.Runs -/
noncomputable def f36_I : PV → List SV × Obs := fun x => ([.val 45 x], [])
noncomputable def f36_D : List SV → Obs → Option (PV)
  | [.val 45 p1], [] => some p1
  | _, _ => none
theorem f36_D_ok (args : List SV) (B : Obs) (x : PV) (h : f36_D args B = some x) : f36_I x = (args, B) := by
  unfold f36_D at h
  split at h
  · injection h with h; subst h; rfl
  · cases h
noncomputable def f36_O : PV → Out := (fun y => ([.val 53 y], []))
noncomputable def f36_un : Out → Option (PV)
  | ([.val 53 y0], []) => some y0
  | _ => none
theorem f36_un_ok (o : Out) (y : PV) (h : f36_un o = some y) : o = f36_O y := by
  unfold f36_un at h
  split at h
  · injection h with h; subst h; rfl
  · cases h
noncomputable def f36_msk : Nat → Option (List Nat) := fun key => bif key == 9 then some [1, 3, 4] else none
noncomputable def f36_C : Oracle := orc0
noncomputable def f36_E (k : Nat) : Env := { P := Try.prog, nilOwn := fun d => d == 3, fldOwn := fun d i => false, ownPar := ownPars, ownRet := false, mask := f36_msk, fuel := k, C := f36_C }
noncomputable def f36_code : Code := Try.f36.body.getD .skip
noncomputable def f36_cw1 : Code := subC f36_code [1, 1, 0, 1, 0, 0]
noncomputable def f36_hw1_0 (p1 : PV) (n2 : Int) (l3 : List PV) : St := ⟨[.dead, .ptr 1 [], .dead, .own 53 3, .int .i64 n2, .dead, .dead, .dead, .dead, .dead, .dead, .dead, .dead, .dead, .dead, .dead, .dead, .dead, .dead, .dead, .dead, .dead, .dead, .dead, .dead, .dead, .dead, .dead, .dead, .dead, .dead, .dead, .dead, .dead, .dead, .dead, .dead, .dead], [(1, .box 45 (.val 45 p1)), (3, .row 55 l3)]⟩
noncomputable def f36_w1A (k : Nat) (retF : PV → R) (p1 : PV) (n2 : Int) (l3 : List PV) : R := loopM (f36_E k) f36_cw1 (kont (f36_E k) f36_code [1, 1, 0, 1, 0] (endK (f36_E k) Try.f36 [] f36_un retF)) k (f36_hw1_0 p1 n2 l3)
noncomputable def f36_w1b0 (ret0 : PV → R) (next_w1_0 : Int → (List PV) → R) (p1 : PV) (n2 : Int) (l3 : List PV) : R :=
  bif (decide (n2 < (256 : Int))) then
    bif (true && decide ((0 : Int) ≤ n2) && decide (n2 < 256)) then
      bif (!(PV.tt (PV.fld p1 (n2).toNat))) then
        next_w1_0 (IntKind.wrap .i64 (n2 + (1 : Int))) l3
      else bif ((decide ((0 : Int) < n2)) == true) then
        bif (true && decide ((0 : Int) ≤ (IntKind.wrap .i64 (n2 - (1 : Int)))) && decide ((IntKind.wrap .i64 (n2 - (1 : Int))) < 256)) then
          bif (PV.tt (PV.fld p1 ((IntKind.wrap .i64 (n2 - (1 : Int)))).toNat)) then
            bif (true && true && decide ((0 : Int) ≤ (IntKind.wrap .i64 ((List.length l3 : Int) - (1 : Int)))) && decide ((IntKind.wrap .i64 ((List.length l3 : Int) - (1 : Int))) < (List.length l3 : Int))) then
              let l4 : List PV := (List.set l3 ((IntKind.wrap .i64 ((List.length l3 : Int) - (1 : Int)))).toNat (PV.agg (List.set (PV.flds (List.getD l3 ((IntKind.wrap .i64 ((List.length l3 : Int) - (1 : Int)))).toNat PV.nil)) 1 (PV.int (IntKind.wrap .u8 n2)))))
              next_w1_0 (IntKind.wrap .i64 (n2 + (1 : Int))) l4
            else none
          else bif (true && roomy (List.length l3 + List.length [(PV.agg [(PV.int (IntKind.wrap .u8 n2)), (PV.int (IntKind.wrap .u8 n2))])]) 2) then
            next_w1_0 (IntKind.wrap .i64 (n2 + (1 : Int))) (l3 ++ [(PV.agg [(PV.int (IntKind.wrap .u8 n2)), (PV.int (IntKind.wrap .u8 n2))])])
          else none
        else none
      else bif (true && roomy (List.length l3 + List.length [(PV.agg [(PV.int (IntKind.wrap .u8 n2)), (PV.int (IntKind.wrap .u8 n2))])]) 2) then
        next_w1_0 (IntKind.wrap .i64 (n2 + (1 : Int))) (l3 ++ [(PV.agg [(PV.int (IntKind.wrap .u8 n2)), (PV.int (IntKind.wrap .u8 n2))])])
      else none
    else none
  else ret0 (PV.list l3)

theorem f36_w1b0_mem (k : Nat) (retF : PV → R) (NX_w1 : St → R) (p1 : PV) (n2 : Int) (l3 : List PV) : exec (f36_E k) f36_cw1 (purgeK (f36_E k) f36_cw1 (loopK NX_w1 (kont (f36_E k) f36_code [1, 1, 0, 1, 0] (endK (f36_E k) Try.f36 [] f36_un retF)))) (f36_hw1_0 p1 n2 l3) = f36_w1b0 (fun y0 => retF y0) (fun n2 l3 => NX_w1 (f36_hw1_0 p1 n2 l3)) p1 n2 l3 := by kernel_rfl

noncomputable def f36_w1b0N (k : Nat) (ret0 : PV → R) (next_w1_0 : Int → (List PV) → R) (p1 : PV) (n2 : Int) (l3 : List PV) : R :=
  f36_w1b0 ret0 next_w1_0 p1 n2 l3
theorem f36_w1b0_eq (k : Nat) (retF : PV → R) (NX_w1 : St → R) (p1 : PV) (n2 : Int) (l3 : List PV) : exec (f36_E k) f36_cw1 (purgeK (f36_E k) f36_cw1 (loopK NX_w1 (kont (f36_E k) f36_code [1, 1, 0, 1, 0] (endK (f36_E k) Try.f36 [] f36_un retF)))) (f36_hw1_0 p1 n2 l3) = f36_w1b0N k (fun y0 => retF y0) (fun n2 l3 => NX_w1 (f36_hw1_0 p1 n2 l3)) p1 n2 l3 :=
  (f36_w1b0_mem k retF NX_w1 p1 n2 l3)

noncomputable def f36_w1B (k : Nat) (ret0 : PV → R) (p1 : PV) (nx : Int × (List PV) → R) : Int × (List PV) → R := (fun s => f36_w1b0N k ret0 (fun n2 l3 => nx (n2, l3)) p1 s.1 s.2)
noncomputable def f36_w1N (k : Nat) (ret0 : PV → R) (p1 : PV) (n2 : Int) (l3 : List PV) : R := loopR (f36_w1B k ret0 p1) k (n2, l3)
theorem f36_w1_eq (k : Nat) (retF : PV → R) (p1 : PV) (n2 : Int) (l3 : List PV) : f36_w1A k retF p1 n2 l3 = f36_w1N k (fun y0 => retF y0) p1 n2 l3 :=
  Eq.mp (by kernel_rfl) (loop_sim (E := (f36_E k)) (c := f36_cw1) (K := (kont (f36_E k) f36_code [1, 1, 0, 1, 0] (endK (f36_E k) Try.f36 [] f36_un retF))) (S := Int × (List PV)) (fun s => f36_hw1_0 p1 s.1 s.2) (f36_w1B k (fun y0 => retF y0) p1) (fun NX s => by
    exact Eq.mp (by kernel_rfl) (f36_w1b0_eq k retF NX p1 s.1 s.2)) k (n2, l3))

noncomputable def f36_e (ret0 : PV → R) (w1 : Int → (List PV) → R) (p1 : PV) : R :=
  w1 0 []

theorem f36_e_mem (k : Nat) (retF : PV → R) (p1 : PV) : exec (f36_E k) f36_code (endK (f36_E k) Try.f36 [] f36_un retF) ⟨[.val 45 p1, .undef, .undef, .undef, .undef, .undef, .undef, .undef, .undef, .undef, .undef, .undef, .undef, .undef, .undef, .undef, .undef, .undef, .undef, .undef, .undef, .undef, .undef, .undef, .undef, .undef, .undef, .undef, .undef, .undef, .undef, .undef, .undef, .undef, .undef, .undef, .undef, .undef], []⟩ = f36_e (fun y0 => retF y0) (fun n2 l3 => f36_w1A k retF p1 n2 l3) p1 := by kernel_rfl

noncomputable def f36_N (k : Nat) (ret0 : PV → R) (p1 : PV) : R :=
  f36_e ret0 (fun n2 l3 => f36_w1N k ret0 p1 n2 l3) p1
theorem f36_eq (k : Nat) (retF : PV → R) (p1 : PV) : exec (f36_E k) f36_code (endK (f36_E k) Try.f36 [] f36_un retF) ⟨[.val 45 p1, .undef, .undef, .undef, .undef, .undef, .undef, .undef, .undef, .undef, .undef, .undef, .undef, .undef, .undef, .undef, .undef, .undef, .undef, .undef, .undef, .undef, .undef, .undef, .undef, .undef, .undef, .undef, .undef, .undef, .undef, .undef, .undef, .undef, .undef, .undef, .undef, .undef], []⟩ = f36_N k (fun y0 => retF y0) p1 :=
  (f36_e_mem k retF p1).trans (by rw [show (fun n2 l3 => f36_w1A k retF p1 n2 l3) = (fun n2 l3 => f36_w1N k (fun y0 => retF y0) p1 n2 l3) from funext fun n2 => funext fun l3 => f36_w1_eq k retF p1 n2 l3]; rfl)

noncomputable def G36 : Nat → PV → (PV → R) → R
  | 0, _, _ => none
  | k + 1, p1, ret0 => f36_N k  ret0 p1
theorem S36 : ∀ k, Snd Try.prog 36 f36_I f36_O (fun x ret => G36 k x (fun y0 => ret y0))
  | 0 => snd_none
  | k + 1 => snd_step (E := f36_E k ) rfl laidOut noNums orc0_ok (f := 36) (fn := Try.f36) (code := f36_code) Try.func36 (by kernel_rfl) (drawsOk_of laidOut orc0_ok mixed (by kernel_rfl)) f36_un f36_un_ok [] (fun _ => rfl)
      (fun x ret => f36_eq k  ret x)

/- catchpole/catchpolelaw1.BytesetSays -/
noncomputable def f7_I : PV × PV × Int × Int × PV → List SV × Obs := fun x => ([.val 24 x.1, .val 24 x.2.1, .int .u8 x.2.2.1, .int .u8 x.2.2.2.1, .val 32 x.2.2.2.2], [])
noncomputable def f7_D : List SV → Obs → Option (PV × PV × Int × Int × PV)
  | [.val 24 p1, .val 24 p2, .int .u8 n3, .int .u8 n4, .val 32 p5], [] => some (p1, p2, n3, n4, p5)
  | _, _ => none
theorem f7_D_ok (args : List SV) (B : Obs) (x : PV × PV × Int × Int × PV) (h : f7_D args B = some x) : f7_I x = (args, B) := by
  unfold f7_D at h
  split at h
  · injection h with h; subst h; rfl
  · cases h
noncomputable def f7_O : Bool → Out := (fun y => ([.bool y], []))
noncomputable def f7_un : Out → Option (Bool)
  | ([.bool y0], []) => some y0
  | _ => none
theorem f7_un_ok (o : Out) (y : Bool) (h : f7_un o = some y) : o = f7_O y := by
  unfold f7_un at h
  split at h
  · injection h with h; subst h; rfl
  · cases h
noncomputable def f7_msk : Nat → Option (List Nat) := fun key => bif key == 42 then some [16, 17, 18] else none
noncomputable def f7_C (c14 : (Bool → R) → R) (c15 : PV → (PV → R) → R) (c16 : PV → (Int → R) → R) (c17 : PV → (PV → R) → R) (c18 : PV → (PV → R) → R) (c19 : PV → (Int → Bool → R) → R) (c21 : PV → (PV → R) → R) (c22 : Int → Int → (PV → R) → R) (c23 : PV → Int → (Bool → R) → R) (c24 : PV → PV → (Int → R) → R) (c25 : PV → PV → (PV → R) → R) (c26 : PV → PV → (PV → R) → R) (c27 : PV → PV → (PV → R) → R) (c28 : PV → (PV → R) → R) (c29 : PV → (PV → R) → R) (c30 : Int → Int → (PV → R) → R) (c31 : PV → PV → (PV → R) → R) (c32 : PV → PV → (PV → R) → R) (c33 : PV → (PV → R) → R) (c34 : PV → PV → (Int → R) → R) (c35 : PV → (PV → R) → R) (c36 : PV → (PV → R) → R) : Oracle := orc 14 f14_D f14_O (fun x ret => c14 (fun y0 => ret y0)) <| orc 15 f15_D f15_O (fun x ret => c15 x (fun y0 => ret y0)) <| orc 16 f16_D f16_O (fun x ret => c16 x (fun y0 => ret y0)) <| orc 17 f17_D f17_O (fun x ret => c17 x (fun y0 => ret y0)) <| orc 18 f18_D f18_O (fun x ret => c18 x (fun y0 => ret y0)) <| orc 19 f19_D f19_O (fun x ret => c19 x (fun y0 y1 => ret (y0, y1))) <| orc 21 f21_D f21_O (fun x ret => c21 x (fun y0 => ret y0)) <| orc 22 f22_D f22_O (fun x ret => c22 x.1 x.2 (fun y0 => ret y0)) <| orc 23 f23_D f23_O (fun x ret => c23 x.1 x.2 (fun y0 => ret y0)) <| orc 24 f24_D f24_O (fun x ret => c24 x.1 x.2 (fun y0 => ret y0)) <| orc 25 f25_D f25_O (fun x ret => c25 x.1 x.2 (fun y0 => ret y0)) <| orc 26 f26_D f26_O (fun x ret => c26 x.1 x.2 (fun y0 => ret y0)) <| orc 27 f27_D f27_O (fun x ret => c27 x.1 x.2 (fun y0 => ret y0)) <| orc 28 f28_D f28_O (fun x ret => c28 x (fun y0 => ret y0)) <| orc 29 f29_D f29_O (fun x ret => c29 x (fun y0 => ret y0)) <| orc 30 f30_D f30_O (fun x ret => c30 x.1 x.2 (fun y0 => ret y0)) <| orc 31 f31_D f31_O (fun x ret => c31 x.1 x.2 (fun y0 => ret y0)) <| orc 32 f32_D f32_O (fun x ret => c32 x.1 x.2 (fun y0 => ret y0)) <| orc 33 f33_D f33_O (fun x ret => c33 x (fun y0 => ret y0)) <| orc 34 f34_D f34_O (fun x ret => c34 x.1 x.2 (fun y0 => ret y0)) <| orc 35 f35_D f35_O (fun x ret => c35 x (fun y0 => ret y0)) <| orc 36 f36_D f36_O (fun x ret => c36 x (fun y0 => ret y0)) <| orc0
noncomputable def f7_E (k : Nat) (c14 : (Bool → R) → R) (c15 : PV → (PV → R) → R) (c16 : PV → (Int → R) → R) (c17 : PV → (PV → R) → R) (c18 : PV → (PV → R) → R) (c19 : PV → (Int → Bool → R) → R) (c21 : PV → (PV → R) → R) (c22 : Int → Int → (PV → R) → R) (c23 : PV → Int → (Bool → R) → R) (c24 : PV → PV → (Int → R) → R) (c25 : PV → PV → (PV → R) → R) (c26 : PV → PV → (PV → R) → R) (c27 : PV → PV → (PV → R) → R) (c28 : PV → (PV → R) → R) (c29 : PV → (PV → R) → R) (c30 : Int → Int → (PV → R) → R) (c31 : PV → PV → (PV → R) → R) (c32 : PV → PV → (PV → R) → R) (c33 : PV → (PV → R) → R) (c34 : PV → PV → (Int → R) → R) (c35 : PV → (PV → R) → R) (c36 : PV → (PV → R) → R) : Env := { P := Try.prog, nilOwn := fun d => false, fldOwn := fun d i => false, ownPar := ownPars, ownRet := false, mask := f7_msk, fuel := k, C := f7_C c14 c15 c16 c17 c18 c19 c21 c22 c23 c24 c25 c26 c27 c28 c29 c30 c31 c32 c33 c34 c35 c36 }
noncomputable def f7_code : Code := Try.f7.body.getD .skip
noncomputable def f7_cw1 : Code := subC f7_code [1, 1, 1, 1, 1, 1, 1, 1, 1, 0, 1, 0, 0]
noncomputable def f7_hw1_0 (p34 : PV) (p35 : PV) (n40 : Int) : St := ⟨[.dead, .dead, .dead, .dead, .dead, .dead, .dead, .dead, .dead, .dead, .dead, .dead, .dead, .dead, .dead, .dead, .val 26 p34, .val 53 p35, .int .i64 n40, .dead, .dead, .dead, .dead, .dead, .dead, .dead, .dead, .dead, .dead, .dead, .dead, .dead, .dead, .dead, .dead, .dead, .dead, .dead, .dead, .dead, .dead, .dead, .dead, .dead, .dead, .dead, .dead, .dead, .dead, .dead, .dead, .dead, .dead, .dead, .dead, .dead, .dead, .dead, .dead, .dead, .dead, .dead, .dead, .dead, .dead, .dead, .dead, .dead, .dead, .dead, .dead, .dead, .dead, .dead, .dead, .dead, .dead, .dead, .dead, .dead, .dead, .dead, .dead, .dead, .dead, .dead, .dead, .dead, .dead, .dead, .dead, .dead, .dead, .dead, .dead, .dead, .dead, .dead, .dead, .dead, .dead, .dead, .dead, .dead, .dead, .dead, .dead, .dead, .dead, .dead, .dead, .dead, .dead, .dead, .dead, .dead, .dead, .dead, .dead, .dead, .dead, .dead, .dead, .dead, .dead, .dead, .dead, .dead, .dead, .dead, .dead, .dead, .dead, .dead, .dead, .dead, .dead, .dead, .dead, .dead, .dead, .dead, .dead, .dead, .dead, .dead, .dead, .dead, .dead, .dead, .dead, .dead, .dead, .dead, .dead, .dead, .dead, .dead, .dead, .dead, .dead, .dead, .dead, .dead, .dead, .dead, .dead, .dead, .dead, .dead, .dead, .dead, .dead, .dead, .dead, .dead, .dead, .dead, .dead, .dead, .dead], []⟩
noncomputable def f7_w1A (k : Nat) (c14 : (Bool → R) → R) (c15 : PV → (PV → R) → R) (c16 : PV → (Int → R) → R) (c17 : PV → (PV → R) → R) (c18 : PV → (PV → R) → R) (c19 : PV → (Int → Bool → R) → R) (c21 : PV → (PV → R) → R) (c22 : Int → Int → (PV → R) → R) (c23 : PV → Int → (Bool → R) → R) (c24 : PV → PV → (Int → R) → R) (c25 : PV → PV → (PV → R) → R) (c26 : PV → PV → (PV → R) → R) (c27 : PV → PV → (PV → R) → R) (c28 : PV → (PV → R) → R) (c29 : PV → (PV → R) → R) (c30 : Int → Int → (PV → R) → R) (c31 : PV → PV → (PV → R) → R) (c32 : PV → PV → (PV → R) → R) (c33 : PV → (PV → R) → R) (c34 : PV → PV → (Int → R) → R) (c35 : PV → (PV → R) → R) (c36 : PV → (PV → R) → R) (retF : Bool → R) (p34 : PV) (p35 : PV) (n40 : Int) : R := loopM (f7_E k c14 c15 c16 c17 c18 c19 c21 c22 c23 c24 c25 c26 c27 c28 c29 c30 c31 c32 c33 c34 c35 c36) f7_cw1 (kont (f7_E k c14 c15 c16 c17 c18 c19 c21 c22 c23 c24 c25 c26 c27 c28 c29 c30 c31 c32 c33 c34 c35 c36) f7_code [1, 1, 1, 1, 1, 1, 1, 1, 1, 0, 1, 0] (endK (f7_E k c14 c15 c16 c17 c18 c19 c21 c22 c23 c24 c25 c26 c27 c28 c29 c30 c31 c32 c33 c34 c35 c36) Try.f7 [] f7_un retF)) k (f7_hw1_0 p34 p35 n40)
noncomputable def f7_w1b0 (c14 : (Bool → R) → R) (c15 : PV → (PV → R) → R) (c16 : PV → (Int → R) → R) (c17 : PV → (PV → R) → R) (c18 : PV → (PV → R) → R) (c19 : PV → (Int → Bool → R) → R) (c21 : PV → (PV → R) → R) (c22 : Int → Int → (PV → R) → R) (c23 : PV → Int → (Bool → R) → R) (c24 : PV → PV → (Int → R) → R) (c25 : PV → PV → (PV → R) → R) (c26 : PV → PV → (PV → R) → R) (c27 : PV → PV → (PV → R) → R) (c28 : PV → (PV → R) → R) (c29 : PV → (PV → R) → R) (c30 : Int → Int → (PV → R) → R) (c31 : PV → PV → (PV → R) → R) (c32 : PV → PV → (PV → R) → R) (c33 : PV → (PV → R) → R) (c34 : PV → PV → (Int → R) → R) (c35 : PV → (PV → R) → R) (c36 : PV → (PV → R) → R) (ret0 : Bool → R) (next_w1_0 : Int → R) (p34 : PV) (p35 : PV) (n40 : Int) : R :=
  bif (decide (n40 < (List.length (PV.els p34) : Int))) then
    bif (true && decide ((0 : Int) ≤ n40) && decide (n40 < (List.length (PV.els p34) : Int))) then
      bif (true && decide ((0 : Int) ≤ n40) && decide (n40 < (List.length (PV.els p35) : Int))) then
        let b41 : Bool := (!(decide ((PV.num (PV.fld (List.getD (PV.els p34) (n40).toNat PV.nil) 0)) = (PV.num (PV.fld (List.getD (PV.els p35) (n40).toNat PV.nil) 0)))))
        bif (b41 == false) then
          bif (true && decide ((0 : Int) ≤ n40) && decide (n40 < (List.length (PV.els p34) : Int))) then
            bif (true && decide ((0 : Int) ≤ n40) && decide (n40 < (List.length (PV.els p35) : Int))) then
              let b42 : Bool := (!(decide ((PV.num (PV.fld (List.getD (PV.els p34) (n40).toNat PV.nil) 1)) = (PV.num (PV.fld (List.getD (PV.els p35) (n40).toNat PV.nil) 1)))))
              bif b42 then
                ret0 false
              else next_w1_0 (IntKind.wrap .i64 (n40 + (1 : Int)))
            else none
          else none
        else ret0 false
      else none
    else none
  else ret0 true

theorem f7_w1b0_mem (k : Nat) (c14 : (Bool → R) → R) (c15 : PV → (PV → R) → R) (c16 : PV → (Int → R) → R) (c17 : PV → (PV → R) → R) (c18 : PV → (PV → R) → R) (c19 : PV → (Int → Bool → R) → R) (c21 : PV → (PV → R) → R) (c22 : Int → Int → (PV → R) → R) (c23 : PV → Int → (Bool → R) → R) (c24 : PV → PV → (Int → R) → R) (c25 : PV → PV → (PV → R) → R) (c26 : PV → PV → (PV → R) → R) (c27 : PV → PV → (PV → R) → R) (c28 : PV → (PV → R) → R) (c29 : PV → (PV → R) → R) (c30 : Int → Int → (PV → R) → R) (c31 : PV → PV → (PV → R) → R) (c32 : PV → PV → (PV → R) → R) (c33 : PV → (PV → R) → R) (c34 : PV → PV → (Int → R) → R) (c35 : PV → (PV → R) → R) (c36 : PV → (PV → R) → R) (retF : Bool → R) (NX_w1 : St → R) (p34 : PV) (p35 : PV) (n40 : Int) : exec (f7_E k c14 c15 c16 c17 c18 c19 c21 c22 c23 c24 c25 c26 c27 c28 c29 c30 c31 c32 c33 c34 c35 c36) f7_cw1 (purgeK (f7_E k c14 c15 c16 c17 c18 c19 c21 c22 c23 c24 c25 c26 c27 c28 c29 c30 c31 c32 c33 c34 c35 c36) f7_cw1 (loopK NX_w1 (kont (f7_E k c14 c15 c16 c17 c18 c19 c21 c22 c23 c24 c25 c26 c27 c28 c29 c30 c31 c32 c33 c34 c35 c36) f7_code [1, 1, 1, 1, 1, 1, 1, 1, 1, 0, 1, 0] (endK (f7_E k c14 c15 c16 c17 c18 c19 c21 c22 c23 c24 c25 c26 c27 c28 c29 c30 c31 c32 c33 c34 c35 c36) Try.f7 [] f7_un retF)))) (f7_hw1_0 p34 p35 n40) = f7_w1b0 c14 c15 c16 c17 c18 c19 c21 c22 c23 c24 c25 c26 c27 c28 c29 c30 c31 c32 c33 c34 c35 c36 (fun y0 => retF y0) (fun n40 => NX_w1 (f7_hw1_0 p34 p35 n40)) p34 p35 n40 := by kernel_rfl

noncomputable def f7_w1b0N (k : Nat) (c14 : (Bool → R) → R) (c15 : PV → (PV → R) → R) (c16 : PV → (Int → R) → R) (c17 : PV → (PV → R) → R) (c18 : PV → (PV → R) → R) (c19 : PV → (Int → Bool → R) → R) (c21 : PV → (PV → R) → R) (c22 : Int → Int → (PV → R) → R) (c23 : PV → Int → (Bool → R) → R) (c24 : PV → PV → (Int → R) → R) (c25 : PV → PV → (PV → R) → R) (c26 : PV → PV → (PV → R) → R) (c27 : PV → PV → (PV → R) → R) (c28 : PV → (PV → R) → R) (c29 : PV → (PV → R) → R) (c30 : Int → Int → (PV → R) → R) (c31 : PV → PV → (PV → R) → R) (c32 : PV → PV → (PV → R) → R) (c33 : PV → (PV → R) → R) (c34 : PV → PV → (Int → R) → R) (c35 : PV → (PV → R) → R) (c36 : PV → (PV → R) → R) (ret0 : Bool → R) (next_w1_0 : Int → R) (p34 : PV) (p35 : PV) (n40 : Int) : R :=
  f7_w1b0 c14 c15 c16 c17 c18 c19 c21 c22 c23 c24 c25 c26 c27 c28 c29 c30 c31 c32 c33 c34 c35 c36 ret0 next_w1_0 p34 p35 n40
theorem f7_w1b0_eq (k : Nat) (c14 : (Bool → R) → R) (c15 : PV → (PV → R) → R) (c16 : PV → (Int → R) → R) (c17 : PV → (PV → R) → R) (c18 : PV → (PV → R) → R) (c19 : PV → (Int → Bool → R) → R) (c21 : PV → (PV → R) → R) (c22 : Int → Int → (PV → R) → R) (c23 : PV → Int → (Bool → R) → R) (c24 : PV → PV → (Int → R) → R) (c25 : PV → PV → (PV → R) → R) (c26 : PV → PV → (PV → R) → R) (c27 : PV → PV → (PV → R) → R) (c28 : PV → (PV → R) → R) (c29 : PV → (PV → R) → R) (c30 : Int → Int → (PV → R) → R) (c31 : PV → PV → (PV → R) → R) (c32 : PV → PV → (PV → R) → R) (c33 : PV → (PV → R) → R) (c34 : PV → PV → (Int → R) → R) (c35 : PV → (PV → R) → R) (c36 : PV → (PV → R) → R) (retF : Bool → R) (NX_w1 : St → R) (p34 : PV) (p35 : PV) (n40 : Int) : exec (f7_E k c14 c15 c16 c17 c18 c19 c21 c22 c23 c24 c25 c26 c27 c28 c29 c30 c31 c32 c33 c34 c35 c36) f7_cw1 (purgeK (f7_E k c14 c15 c16 c17 c18 c19 c21 c22 c23 c24 c25 c26 c27 c28 c29 c30 c31 c32 c33 c34 c35 c36) f7_cw1 (loopK NX_w1 (kont (f7_E k c14 c15 c16 c17 c18 c19 c21 c22 c23 c24 c25 c26 c27 c28 c29 c30 c31 c32 c33 c34 c35 c36) f7_code [1, 1, 1, 1, 1, 1, 1, 1, 1, 0, 1, 0] (endK (f7_E k c14 c15 c16 c17 c18 c19 c21 c22 c23 c24 c25 c26 c27 c28 c29 c30 c31 c32 c33 c34 c35 c36) Try.f7 [] f7_un retF)))) (f7_hw1_0 p34 p35 n40) = f7_w1b0N k c14 c15 c16 c17 c18 c19 c21 c22 c23 c24 c25 c26 c27 c28 c29 c30 c31 c32 c33 c34 c35 c36 (fun y0 => retF y0) (fun n40 => NX_w1 (f7_hw1_0 p34 p35 n40)) p34 p35 n40 :=
  (f7_w1b0_mem k c14 c15 c16 c17 c18 c19 c21 c22 c23 c24 c25 c26 c27 c28 c29 c30 c31 c32 c33 c34 c35 c36 retF NX_w1 p34 p35 n40)

noncomputable def f7_w1B (k : Nat) (c14 : (Bool → R) → R) (c15 : PV → (PV → R) → R) (c16 : PV → (Int → R) → R) (c17 : PV → (PV → R) → R) (c18 : PV → (PV → R) → R) (c19 : PV → (Int → Bool → R) → R) (c21 : PV → (PV → R) → R) (c22 : Int → Int → (PV → R) → R) (c23 : PV → Int → (Bool → R) → R) (c24 : PV → PV → (Int → R) → R) (c25 : PV → PV → (PV → R) → R) (c26 : PV → PV → (PV → R) → R) (c27 : PV → PV → (PV → R) → R) (c28 : PV → (PV → R) → R) (c29 : PV → (PV → R) → R) (c30 : Int → Int → (PV → R) → R) (c31 : PV → PV → (PV → R) → R) (c32 : PV → PV → (PV → R) → R) (c33 : PV → (PV → R) → R) (c34 : PV → PV → (Int → R) → R) (c35 : PV → (PV → R) → R) (c36 : PV → (PV → R) → R) (ret0 : Bool → R) (p34 : PV) (p35 : PV) (nx : Int → R) : Int → R := (fun s => f7_w1b0N k c14 c15 c16 c17 c18 c19 c21 c22 c23 c24 c25 c26 c27 c28 c29 c30 c31 c32 c33 c34 c35 c36 ret0 (fun n40 => nx n40) p34 p35 s)
noncomputable def f7_w1N (k : Nat) (c14 : (Bool → R) → R) (c15 : PV → (PV → R) → R) (c16 : PV → (Int → R) → R) (c17 : PV → (PV → R) → R) (c18 : PV → (PV → R) → R) (c19 : PV → (Int → Bool → R) → R) (c21 : PV → (PV → R) → R) (c22 : Int → Int → (PV → R) → R) (c23 : PV → Int → (Bool → R) → R) (c24 : PV → PV → (Int → R) → R) (c25 : PV → PV → (PV → R) → R) (c26 : PV → PV → (PV → R) → R) (c27 : PV → PV → (PV → R) → R) (c28 : PV → (PV → R) → R) (c29 : PV → (PV → R) → R) (c30 : Int → Int → (PV → R) → R) (c31 : PV → PV → (PV → R) → R) (c32 : PV → PV → (PV → R) → R) (c33 : PV → (PV → R) → R) (c34 : PV → PV → (Int → R) → R) (c35 : PV → (PV → R) → R) (c36 : PV → (PV → R) → R) (ret0 : Bool → R) (p34 : PV) (p35 : PV) (n40 : Int) : R := loopR (f7_w1B k c14 c15 c16 c17 c18 c19 c21 c22 c23 c24 c25 c26 c27 c28 c29 c30 c31 c32 c33 c34 c35 c36 ret0 p34 p35) k n40
theorem f7_w1_eq (k : Nat) (c14 : (Bool → R) → R) (c15 : PV → (PV → R) → R) (c16 : PV → (Int → R) → R) (c17 : PV → (PV → R) → R) (c18 : PV → (PV → R) → R) (c19 : PV → (Int → Bool → R) → R) (c21 : PV → (PV → R) → R) (c22 : Int → Int → (PV → R) → R) (c23 : PV → Int → (Bool → R) → R) (c24 : PV → PV → (Int → R) → R) (c25 : PV → PV → (PV → R) → R) (c26 : PV → PV → (PV → R) → R) (c27 : PV → PV → (PV → R) → R) (c28 : PV → (PV → R) → R) (c29 : PV → (PV → R) → R) (c30 : Int → Int → (PV → R) → R) (c31 : PV → PV → (PV → R) → R) (c32 : PV → PV → (PV → R) → R) (c33 : PV → (PV → R) → R) (c34 : PV → PV → (Int → R) → R) (c35 : PV → (PV → R) → R) (c36 : PV → (PV → R) → R) (retF : Bool → R) (p34 : PV) (p35 : PV) (n40 : Int) : f7_w1A k c14 c15 c16 c17 c18 c19 c21 c22 c23 c24 c25 c26 c27 c28 c29 c30 c31 c32 c33 c34 c35 c36 retF p34 p35 n40 = f7_w1N k c14 c15 c16 c17 c18 c19 c21 c22 c23 c24 c25 c26 c27 c28 c29 c30 c31 c32 c33 c34 c35 c36 (fun y0 => retF y0) p34 p35 n40 :=
  Eq.mp (by kernel_rfl) (loop_sim (E := (f7_E k c14 c15 c16 c17 c18 c19 c21 c22 c23 c24 c25 c26 c27 c28 c29 c30 c31 c32 c33 c34 c35 c36)) (c := f7_cw1) (K := (kont (f7_E k c14 c15 c16 c17 c18 c19 c21 c22 c23 c24 c25 c26 c27 c28 c29 c30 c31 c32 c33 c34 c35 c36) f7_code [1, 1, 1, 1, 1, 1, 1, 1, 1, 0, 1, 0] (endK (f7_E k c14 c15 c16 c17 c18 c19 c21 c22 c23 c24 c25 c26 c27 c28 c29 c30 c31 c32 c33 c34 c35 c36) Try.f7 [] f7_un retF))) (S := Int) (fun s => f7_hw1_0 p34 p35 s) (f7_w1B k c14 c15 c16 c17 c18 c19 c21 c22 c23 c24 c25 c26 c27 c28 c29 c30 c31 c32 c33 c34 c35 c36 (fun y0 => retF y0) p34 p35) (fun NX s => by
    exact Eq.mp (by kernel_rfl) (f7_w1b0_eq k c14 c15 c16 c17 c18 c19 c21 c22 c23 c24 c25 c26 c27 c28 c29 c30 c31 c32 c33 c34 c35 c36 retF NX p34 p35 s)) k n40)

noncomputable def f7_cw2 : Code := subC f7_code [1, 1, 1, 1, 1, 1, 1, 1, 1, 0, 1, 0, 0]
noncomputable def f7_hw2_0 (p34 : PV) (p35 : PV) (n45 : Int) : St := ⟨[.dead, .dead, .dead, .dead, .dead, .dead, .dead, .dead, .dead, .dead, .dead, .dead, .dead, .dead, .dead, .dead, .val 26 p34, .val 53 p35, .int .i64 n45, .dead, .dead, .dead, .dead, .dead, .dead, .dead, .dead, .dead, .dead, .dead, .dead, .dead, .dead, .dead, .dead, .dead, .dead, .dead, .dead, .dead, .dead, .dead, .dead, .dead, .dead, .dead, .dead, .dead, .dead, .dead, .dead, .dead, .dead, .dead, .dead, .dead, .dead, .dead, .dead, .dead, .dead, .dead, .dead, .dead, .dead, .dead, .dead, .dead, .dead, .dead, .dead, .dead, .dead, .dead, .dead, .dead, .dead, .dead, .dead, .dead, .dead, .dead, .dead, .dead, .dead, .dead, .dead, .dead, .dead, .dead, .dead, .dead, .dead, .dead, .dead, .dead, .dead, .dead, .dead, .dead, .dead, .dead, .dead, .dead, .dead, .dead, .dead, .dead, .dead, .dead, .dead, .dead, .dead, .dead, .dead, .dead, .dead, .dead, .dead, .dead, .dead, .dead, .dead, .dead, .dead, .dead, .dead, .dead, .dead, .dead, .dead, .dead, .dead, .dead, .dead, .dead, .dead, .dead, .dead, .dead, .dead, .dead, .dead, .dead, .dead, .dead, .dead, .dead, .dead, .dead, .dead, .dead, .dead, .dead, .dead, .dead, .dead, .dead, .dead, .dead, .dead, .dead, .dead, .dead, .dead, .dead, .dead, .dead, .dead, .dead, .dead, .dead, .dead, .dead, .dead, .dead, .dead, .dead, .dead, .dead, .dead], []⟩
noncomputable def f7_w2A (k : Nat) (c14 : (Bool → R) → R) (c15 : PV → (PV → R) → R) (c16 : PV → (Int → R) → R) (c17 : PV → (PV → R) → R) (c18 : PV → (PV → R) → R) (c19 : PV → (Int → Bool → R) → R) (c21 : PV → (PV → R) → R) (c22 : Int → Int → (PV → R) → R) (c23 : PV → Int → (Bool → R) → R) (c24 : PV → PV → (Int → R) → R) (c25 : PV → PV → (PV → R) → R) (c26 : PV → PV → (PV → R) → R) (c27 : PV → PV → (PV → R) → R) (c28 : PV → (PV → R) → R) (c29 : PV → (PV → R) → R) (c30 : Int → Int → (PV → R) → R) (c31 : PV → PV → (PV → R) → R) (c32 : PV → PV → (PV → R) → R) (c33 : PV → (PV → R) → R) (c34 : PV → PV → (Int → R) → R) (c35 : PV → (PV → R) → R) (c36 : PV → (PV → R) → R) (retF : Bool → R) (p34 : PV) (p35 : PV) (n45 : Int) : R := loopM (f7_E k c14 c15 c16 c17 c18 c19 c21 c22 c23 c24 c25 c26 c27 c28 c29 c30 c31 c32 c33 c34 c35 c36) f7_cw2 (kont (f7_E k c14 c15 c16 c17 c18 c19 c21 c22 c23 c24 c25 c26 c27 c28 c29 c30 c31 c32 c33 c34 c35 c36) f7_code [1, 1, 1, 1, 1, 1, 1, 1, 1, 0, 1, 0] (endK (f7_E k c14 c15 c16 c17 c18 c19 c21 c22 c23 c24 c25 c26 c27 c28 c29 c30 c31 c32 c33 c34 c35 c36) Try.f7 [] f7_un retF)) k (f7_hw2_0 p34 p35 n45)
noncomputable def f7_w2b0 (c14 : (Bool → R) → R) (c15 : PV → (PV → R) → R) (c16 : PV → (Int → R) → R) (c17 : PV → (PV → R) → R) (c18 : PV → (PV → R) → R) (c19 : PV → (Int → Bool → R) → R) (c21 : PV → (PV → R) → R) (c22 : Int → Int → (PV → R) → R) (c23 : PV → Int → (Bool → R) → R) (c24 : PV → PV → (Int → R) → R) (c25 : PV → PV → (PV → R) → R) (c26 : PV → PV → (PV → R) → R) (c27 : PV → PV → (PV → R) → R) (c28 : PV → (PV → R) → R) (c29 : PV → (PV → R) → R) (c30 : Int → Int → (PV → R) → R) (c31 : PV → PV → (PV → R) → R) (c32 : PV → PV → (PV → R) → R) (c33 : PV → (PV → R) → R) (c34 : PV → PV → (Int → R) → R) (c35 : PV → (PV → R) → R) (c36 : PV → (PV → R) → R) (ret0 : Bool → R) (next_w2_0 : Int → R) (p34 : PV) (p35 : PV) (n45 : Int) : R :=
  bif (decide (n45 < (List.length (PV.els p34) : Int))) then
    bif (true && decide ((0 : Int) ≤ n45) && decide (n45 < (List.length (PV.els p34) : Int))) then
      bif (true && decide ((0 : Int) ≤ n45) && decide (n45 < (List.length (PV.els p35) : Int))) then
        let b46 : Bool := (!(decide ((PV.num (PV.fld (List.getD (PV.els p34) (n45).toNat PV.nil) 0)) = (PV.num (PV.fld (List.getD (PV.els p35) (n45).toNat PV.nil) 0)))))
        bif (b46 == false) then
          bif (true && decide ((0 : Int) ≤ n45) && decide (n45 < (List.length (PV.els p34) : Int))) then
            bif (true && decide ((0 : Int) ≤ n45) && decide (n45 < (List.length (PV.els p35) : Int))) then
              let b47 : Bool := (!(decide ((PV.num (PV.fld (List.getD (PV.els p34) (n45).toNat PV.nil) 1)) = (PV.num (PV.fld (List.getD (PV.els p35) (n45).toNat PV.nil) 1)))))
              bif b47 then
                ret0 false
              else next_w2_0 (IntKind.wrap .i64 (n45 + (1 : Int)))
            else none
          else none
        else ret0 false
      else none
    else none
  else ret0 true

theorem f7_w2b0_mem (k : Nat) (c14 : (Bool → R) → R) (c15 : PV → (PV → R) → R) (c16 : PV → (Int → R) → R) (c17 : PV → (PV → R) → R) (c18 : PV → (PV → R) → R) (c19 : PV → (Int → Bool → R) → R) (c21 : PV → (PV → R) → R) (c22 : Int → Int → (PV → R) → R) (c23 : PV → Int → (Bool → R) → R) (c24 : PV → PV → (Int → R) → R) (c25 : PV → PV → (PV → R) → R) (c26 : PV → PV → (PV → R) → R) (c27 : PV → PV → (PV → R) → R) (c28 : PV → (PV → R) → R) (c29 : PV → (PV → R) → R) (c30 : Int → Int → (PV → R) → R) (c31 : PV → PV → (PV → R) → R) (c32 : PV → PV → (PV → R) → R) (c33 : PV → (PV → R) → R) (c34 : PV → PV → (Int → R) → R) (c35 : PV → (PV → R) → R) (c36 : PV → (PV → R) → R) (retF : Bool → R) (NX_w2 : St → R) (p34 : PV) (p35 : PV) (n45 : Int) : exec (f7_E k c14 c15 c16 c17 c18 c19 c21 c22 c23 c24 c25 c26 c27 c28 c29 c30 c31 c32 c33 c34 c35 c36) f7_cw2 (purgeK (f7_E k c14 c15 c16 c17 c18 c19 c21 c22 c23 c24 c25 c26 c27 c28 c29 c30 c31 c32 c33 c34 c35 c36) f7_cw2 (loopK NX_w2 (kont (f7_E k c14 c15 c16 c17 c18 c19 c21 c22 c23 c24 c25 c26 c27 c28 c29 c30 c31 c32 c33 c34 c35 c36) f7_code [1, 1, 1, 1, 1, 1, 1, 1, 1, 0, 1, 0] (endK (f7_E k c14 c15 c16 c17 c18 c19 c21 c22 c23 c24 c25 c26 c27 c28 c29 c30 c31 c32 c33 c34 c35 c36) Try.f7 [] f7_un retF)))) (f7_hw2_0 p34 p35 n45) = f7_w2b0 c14 c15 c16 c17 c18 c19 c21 c22 c23 c24 c25 c26 c27 c28 c29 c30 c31 c32 c33 c34 c35 c36 (fun y0 => retF y0) (fun n45 => NX_w2 (f7_hw2_0 p34 p35 n45)) p34 p35 n45 := by kernel_rfl

noncomputable def f7_w2b0N (k : Nat) (c14 : (Bool → R) → R) (c15 : PV → (PV → R) → R) (c16 : PV → (Int → R) → R) (c17 : PV → (PV → R) → R) (c18 : PV → (PV → R) → R) (c19 : PV → (Int → Bool → R) → R) (c21 : PV → (PV → R) → R) (c22 : Int → Int → (PV → R) → R) (c23 : PV → Int → (Bool → R) → R) (c24 : PV → PV → (Int → R) → R) (c25 : PV → PV → (PV → R) → R) (c26 : PV → PV → (PV → R) → R) (c27 : PV → PV → (PV → R) → R) (c28 : PV → (PV → R) → R) (c29 : PV → (PV → R) → R) (c30 : Int → Int → (PV → R) → R) (c31 : PV → PV → (PV → R) → R) (c32 : PV → PV → (PV → R) → R) (c33 : PV → (PV → R) → R) (c34 : PV → PV → (Int → R) → R) (c35 : PV → (PV → R) → R) (c36 : PV → (PV → R) → R) (ret0 : Bool → R) (next_w2_0 : Int → R) (p34 : PV) (p35 : PV) (n45 : Int) : R :=
  f7_w2b0 c14 c15 c16 c17 c18 c19 c21 c22 c23 c24 c25 c26 c27 c28 c29 c30 c31 c32 c33 c34 c35 c36 ret0 next_w2_0 p34 p35 n45
theorem f7_w2b0_eq (k : Nat) (c14 : (Bool → R) → R) (c15 : PV → (PV → R) → R) (c16 : PV → (Int → R) → R) (c17 : PV → (PV → R) → R) (c18 : PV → (PV → R) → R) (c19 : PV → (Int → Bool → R) → R) (c21 : PV → (PV → R) → R) (c22 : Int → Int → (PV → R) → R) (c23 : PV → Int → (Bool → R) → R) (c24 : PV → PV → (Int → R) → R) (c25 : PV → PV → (PV → R) → R) (c26 : PV → PV → (PV → R) → R) (c27 : PV → PV → (PV → R) → R) (c28 : PV → (PV → R) → R) (c29 : PV → (PV → R) → R) (c30 : Int → Int → (PV → R) → R) (c31 : PV → PV → (PV → R) → R) (c32 : PV → PV → (PV → R) → R) (c33 : PV → (PV → R) → R) (c34 : PV → PV → (Int → R) → R) (c35 : PV → (PV → R) → R) (c36 : PV → (PV → R) → R) (retF : Bool → R) (NX_w2 : St → R) (p34 : PV) (p35 : PV) (n45 : Int) : exec (f7_E k c14 c15 c16 c17 c18 c19 c21 c22 c23 c24 c25 c26 c27 c28 c29 c30 c31 c32 c33 c34 c35 c36) f7_cw2 (purgeK (f7_E k c14 c15 c16 c17 c18 c19 c21 c22 c23 c24 c25 c26 c27 c28 c29 c30 c31 c32 c33 c34 c35 c36) f7_cw2 (loopK NX_w2 (kont (f7_E k c14 c15 c16 c17 c18 c19 c21 c22 c23 c24 c25 c26 c27 c28 c29 c30 c31 c32 c33 c34 c35 c36) f7_code [1, 1, 1, 1, 1, 1, 1, 1, 1, 0, 1, 0] (endK (f7_E k c14 c15 c16 c17 c18 c19 c21 c22 c23 c24 c25 c26 c27 c28 c29 c30 c31 c32 c33 c34 c35 c36) Try.f7 [] f7_un retF)))) (f7_hw2_0 p34 p35 n45) = f7_w2b0N k c14 c15 c16 c17 c18 c19 c21 c22 c23 c24 c25 c26 c27 c28 c29 c30 c31 c32 c33 c34 c35 c36 (fun y0 => retF y0) (fun n45 => NX_w2 (f7_hw2_0 p34 p35 n45)) p34 p35 n45 :=
  (f7_w2b0_mem k c14 c15 c16 c17 c18 c19 c21 c22 c23 c24 c25 c26 c27 c28 c29 c30 c31 c32 c33 c34 c35 c36 retF NX_w2 p34 p35 n45)

noncomputable def f7_w2B (k : Nat) (c14 : (Bool → R) → R) (c15 : PV → (PV → R) → R) (c16 : PV → (Int → R) → R) (c17 : PV → (PV → R) → R) (c18 : PV → (PV → R) → R) (c19 : PV → (Int → Bool → R) → R) (c21 : PV → (PV → R) → R) (c22 : Int → Int → (PV → R) → R) (c23 : PV → Int → (Bool → R) → R) (c24 : PV → PV → (Int → R) → R) (c25 : PV → PV → (PV → R) → R) (c26 : PV → PV → (PV → R) → R) (c27 : PV → PV → (PV → R) → R) (c28 : PV → (PV → R) → R) (c29 : PV → (PV → R) → R) (c30 : Int → Int → (PV → R) → R) (c31 : PV → PV → (PV → R) → R) (c32 : PV → PV → (PV → R) → R) (c33 : PV → (PV → R) → R) (c34 : PV → PV → (Int → R) → R) (c35 : PV → (PV → R) → R) (c36 : PV → (PV → R) → R) (ret0 : Bool → R) (p34 : PV) (p35 : PV) (nx : Int → R) : Int → R := (fun s => f7_w2b0N k c14 c15 c16 c17 c18 c19 c21 c22 c23 c24 c25 c26 c27 c28 c29 c30 c31 c32 c33 c34 c35 c36 ret0 (fun n45 => nx n45) p34 p35 s)
noncomputable def f7_w2N (k : Nat) (c14 : (Bool → R) → R) (c15 : PV → (PV → R) → R) (c16 : PV → (Int → R) → R) (c17 : PV → (PV → R) → R) (c18 : PV → (PV → R) → R) (c19 : PV → (Int → Bool → R) → R) (c21 : PV → (PV → R) → R) (c22 : Int → Int → (PV → R) → R) (c23 : PV → Int → (Bool → R) → R) (c24 : PV → PV → (Int → R) → R) (c25 : PV → PV → (PV → R) → R) (c26 : PV → PV → (PV → R) → R) (c27 : PV → PV → (PV → R) → R) (c28 : PV → (PV → R) → R) (c29 : PV → (PV → R) → R) (c30 : Int → Int → (PV → R) → R) (c31 : PV → PV → (PV → R) → R) (c32 : PV → PV → (PV → R) → R) (c33 : PV → (PV → R) → R) (c34 : PV → PV → (Int → R) → R) (c35 : PV → (PV → R) → R) (c36 : PV → (PV → R) → R) (ret0 : Bool → R) (p34 : PV) (p35 : PV) (n45 : Int) : R := loopR (f7_w2B k c14 c15 c16 c17 c18 c19 c21 c22 c23 c24 c25 c26 c27 c28 c29 c30 c31 c32 c33 c34 c35 c36 ret0 p34 p35) k n45
theorem f7_w2_eq (k : Nat) (c14 : (Bool → R) → R) (c15 : PV → (PV → R) → R) (c16 : PV → (Int → R) → R) (c17 : PV → (PV → R) → R) (c18 : PV → (PV → R) → R) (c19 : PV → (Int → Bool → R) → R) (c21 : PV → (PV → R) → R) (c22 : Int → Int → (PV → R) → R) (c23 : PV → Int → (Bool → R) → R) (c24 : PV → PV → (Int → R) → R) (c25 : PV → PV → (PV → R) → R) (c26 : PV → PV → (PV → R) → R) (c27 : PV → PV → (PV → R) → R) (c28 : PV → (PV → R) → R) (c29 : PV → (PV → R) → R) (c30 : Int → Int → (PV → R) → R) (c31 : PV → PV → (PV → R) → R) (c32 : PV → PV → (PV → R) → R) (c33 : PV → (PV → R) → R) (c34 : PV → PV → (Int → R) → R) (c35 : PV → (PV → R) → R) (c36 : PV → (PV → R) → R) (retF : Bool → R) (p34 : PV) (p35 : PV) (n45 : Int) : f7_w2A k c14 c15 c16 c17 c18 c19 c21 c22 c23 c24 c25 c26 c27 c28 c29 c30 c31 c32 c33 c34 c35 c36 retF p34 p35 n45 = f7_w2N k c14 c15 c16 c17 c18 c19 c21 c22 c23 c24 c25 c26 c27 c28 c29 c30 c31 c32 c33 c34 c35 c36 (fun y0 => retF y0) p34 p35 n45 :=
  Eq.mp (by kernel_rfl) (loop_sim (E := (f7_E k c14 c15 c16 c17 c18 c19 c21 c22 c23 c24 c25 c26 c27 c28 c29 c30 c31 c32 c33 c34 c35 c36)) (c := f7_cw2) (K := (kont (f7_E k c14 c15 c16 c17 c18 c19 c21 c22 c23 c24 c25 c26 c27 c28 c29 c30 c31 c32 c33 c34 c35 c36) f7_code [1, 1, 1, 1, 1, 1, 1, 1, 1, 0, 1, 0] (endK (f7_E k c14 c15 c16 c17 c18 c19 c21 c22 c23 c24 c25 c26 c27 c28 c29 c30 c31 c32 c33 c34 c35 c36) Try.f7 [] f7_un retF))) (S := Int) (fun s => f7_hw2_0 p34 p35 s) (f7_w2B k c14 c15 c16 c17 c18 c19 c21 c22 c23 c24 c25 c26 c27 c28 c29 c30 c31 c32 c33 c34 c35 c36 (fun y0 => retF y0) p34 p35) (fun NX s => by
    exact Eq.mp (by kernel_rfl) (f7_w2b0_eq k c14 c15 c16 c17 c18 c19 c21 c22 c23 c24 c25 c26 c27 c28 c29 c30 c31 c32 c33 c34 c35 c36 retF NX p34 p35 s)) k n45)

noncomputable def f7_e (c14 : (Bool → R) → R) (c15 : PV → (PV → R) → R) (c16 : PV → (Int → R) → R) (c17 : PV → (PV → R) → R) (c18 : PV → (PV → R) → R) (c19 : PV → (Int → Bool → R) → R) (c21 : PV → (PV → R) → R) (c22 : Int → Int → (PV → R) → R) (c23 : PV → Int → (Bool → R) → R) (c24 : PV → PV → (Int → R) → R) (c25 : PV → PV → (PV → R) → R) (c26 : PV → PV → (PV → R) → R) (c27 : PV → PV → (PV → R) → R) (c28 : PV → (PV → R) → R) (c29 : PV → (PV → R) → R) (c30 : Int → Int → (PV → R) → R) (c31 : PV → PV → (PV → R) → R) (c32 : PV → PV → (PV → R) → R) (c33 : PV → (PV → R) → R) (c34 : PV → PV → (Int → R) → R) (c35 : PV → (PV → R) → R) (c36 : PV → (PV → R) → R) (ret0 : Bool → R) (w1 : PV → PV → Int → R) (w2 : PV → PV → Int → R) (p1 : PV) (p2 : PV) (n3 : Int) (n4 : Int) (p5 : PV) : R :=
  c14 fun b6 =>
  bif (!b6) then
    ret0 false
  else bif (decide ((300 : Int) < (List.length (PV.els p5) : Int))) then
    ret0 true
  else c28 p1 fun p7 =>
  c28 p2 fun p8 =>
  c18 p5 fun p9 =>
  c28 p9 fun p10 =>
  c29 p5 fun p11 =>
  bif ((!(PV.beq p10 p11)) == false) then
    c22 n3 n4 fun p12 =>
    c28 p12 fun p13 =>
    c30 (IntKind.wrap .i64 n3) (IntKind.wrap .i64 n4) fun p14 =>
    bif ((!(PV.beq p13 p14)) == false) then
      c25 p1 p2 fun p15 =>
      c28 p15 fun p16 =>
      c31 p7 p8 fun p17 =>
      bif ((!(PV.beq p16 p17)) == false) then
        c26 p1 p2 fun p18 =>
        c28 p18 fun p19 =>
        c32 p7 p8 fun p20 =>
        bif ((!(PV.beq p19 p20)) == false) then
          c21 p1 fun p21 =>
          c28 p21 fun p22 =>
          c33 p7 fun p23 =>
          bif ((!(PV.beq p22 p23)) == false) then
            c27 p1 p2 fun p24 =>
            c28 p24 fun p25 =>
            c33 p8 fun p26 =>
            c32 p7 p26 fun p27 =>
            bif ((!(PV.beq p25 p27)) == false) then
              c24 p1 p2 fun n28 =>
              c34 p7 p8 fun n29 =>
              bif ((!(decide (n28 = n29))) == false) then
                c23 p1 n3 fun b30 =>
                bif (true && decide ((0 : Int) ≤ n3) && decide (n3 < 256)) then
                  bif (!(b30 == (PV.tt (PV.fld p7 (n3).toNat)))) then
                    ret0 false
                  else c35 p7 fun p31 =>
                  c19 p1 fun n32 b33 =>
                  c15 p1 fun p34 =>
                  c36 p7 fun p35 =>
                  c17 p1 fun p36 =>
                  bif ((!(decide (((List.map PV.num (PV.els p36)) : List Int) = (List.map PV.num (PV.els p31))))) == false) then
                    c16 p1 fun n37 =>
                    bif ((!(decide (n37 = (List.length (PV.els p31) : Int)))) == false) then
                      bif ((!(b33 == (decide ((0 : Int) < (List.length (PV.els p31) : Int))))) == false) then
                        bif (b33 == true) then
                          bif (true && decide ((0 : Int) ≤ (0 : Int)) && decide ((0 : Int) < (List.length (PV.els p31) : Int))) then
                            bif ((!(decide (n32 = (PV.num (List.getD (PV.els p31) ((0 : Int)).toNat PV.nil))))) == false) then
                              bif (!(decide ((List.length (PV.els p34) : Int) = (List.length (PV.els p35) : Int)))) then
                                ret0 false
                              else w1 p34 p35 0
                            else ret0 false
                          else none
                        else bif (!(decide ((List.length (PV.els p34) : Int) = (List.length (PV.els p35) : Int)))) then
                          ret0 false
                        else w2 p34 p35 0
                      else ret0 false
                    else ret0 false
                  else ret0 false
                else none
              else ret0 false
            else ret0 false
          else ret0 false
        else ret0 false
      else ret0 false
    else ret0 false
  else ret0 false

theorem f7_e_mem (k : Nat) (c14 : (Bool → R) → R) (c15 : PV → (PV → R) → R) (c16 : PV → (Int → R) → R) (c17 : PV → (PV → R) → R) (c18 : PV → (PV → R) → R) (c19 : PV → (Int → Bool → R) → R) (c21 : PV → (PV → R) → R) (c22 : Int → Int → (PV → R) → R) (c23 : PV → Int → (Bool → R) → R) (c24 : PV → PV → (Int → R) → R) (c25 : PV → PV → (PV → R) → R) (c26 : PV → PV → (PV → R) → R) (c27 : PV → PV → (PV → R) → R) (c28 : PV → (PV → R) → R) (c29 : PV → (PV → R) → R) (c30 : Int → Int → (PV → R) → R) (c31 : PV → PV → (PV → R) → R) (c32 : PV → PV → (PV → R) → R) (c33 : PV → (PV → R) → R) (c34 : PV → PV → (Int → R) → R) (c35 : PV → (PV → R) → R) (c36 : PV → (PV → R) → R) (retF : Bool → R) (p1 : PV) (p2 : PV) (n3 : Int) (n4 : Int) (p5 : PV) : exec (f7_E k c14 c15 c16 c17 c18 c19 c21 c22 c23 c24 c25 c26 c27 c28 c29 c30 c31 c32 c33 c34 c35 c36) f7_code (endK (f7_E k c14 c15 c16 c17 c18 c19 c21 c22 c23 c24 c25 c26 c27 c28 c29 c30 c31 c32 c33 c34 c35 c36) Try.f7 [] f7_un retF) ⟨[.val 24 p1, .val 24 p2, .int .u8 n3, .int .u8 n4, .val 32 p5, .undef, .undef, .undef, .undef, .undef, .undef, .undef, .undef, .undef, .undef, .undef, .undef, .undef, .undef, .undef, .undef, .undef, .undef, .undef, .undef, .undef, .undef, .undef, .undef, .undef, .undef, .undef, .undef, .undef, .undef, .undef, .undef, .undef, .undef, .undef, .undef, .undef, .undef, .undef, .undef, .undef, .undef, .undef, .undef, .undef, .undef, .undef, .undef, .undef, .undef, .undef, .undef, .undef, .undef, .undef, .undef, .undef, .undef, .undef, .undef, .undef, .undef, .undef, .undef, .undef, .undef, .undef, .undef, .undef, .undef, .undef, .undef, .undef, .undef, .undef, .undef, .undef, .undef, .undef, .undef, .undef, .undef, .undef, .undef, .undef, .undef, .undef, .undef, .undef, .undef, .undef, .undef, .undef, .undef, .undef, .undef, .undef, .undef, .undef, .undef, .undef, .undef, .undef, .undef, .undef, .undef, .undef, .undef, .undef, .undef, .undef, .undef, .undef, .undef, .undef, .undef, .undef, .undef, .undef, .undef, .undef, .undef, .undef, .undef, .undef, .undef, .undef, .undef, .undef, .undef, .undef, .undef, .undef, .undef, .undef, .undef, .undef, .undef, .undef, .undef, .undef, .undef, .undef, .undef, .undef, .undef, .undef, .undef, .undef, .undef, .undef, .undef, .undef, .undef, .undef, .undef, .undef, .undef, .undef, .undef, .undef, .undef, .undef, .undef, .undef, .undef, .undef, .undef, .undef, .undef, .undef, .undef, .undef, .undef, .undef, .undef], []⟩ = f7_e c14 c15 c16 c17 c18 c19 c21 c22 c23 c24 c25 c26 c27 c28 c29 c30 c31 c32 c33 c34 c35 c36 (fun y0 => retF y0) (fun p34 p35 n40 => f7_w1A k c14 c15 c16 c17 c18 c19 c21 c22 c23 c24 c25 c26 c27 c28 c29 c30 c31 c32 c33 c34 c35 c36 retF p34 p35 n40) (fun p34 p35 n45 => f7_w2A k c14 c15 c16 c17 c18 c19 c21 c22 c23 c24 c25 c26 c27 c28 c29 c30 c31 c32 c33 c34 c35 c36 retF p34 p35 n45) p1 p2 n3 n4 p5 := by kernel_rfl

noncomputable def f7_N (k : Nat) (c14 : (Bool → R) → R) (c15 : PV → (PV → R) → R) (c16 : PV → (Int → R) → R) (c17 : PV → (PV → R) → R) (c18 : PV → (PV → R) → R) (c19 : PV → (Int → Bool → R) → R) (c21 : PV → (PV → R) → R) (c22 : Int → Int → (PV → R) → R) (c23 : PV → Int → (Bool → R) → R) (c24 : PV → PV → (Int → R) → R) (c25 : PV → PV → (PV → R) → R) (c26 : PV → PV → (PV → R) → R) (c27 : PV → PV → (PV → R) → R) (c28 : PV → (PV → R) → R) (c29 : PV → (PV → R) → R) (c30 : Int → Int → (PV → R) → R) (c31 : PV → PV → (PV → R) → R) (c32 : PV → PV → (PV → R) → R) (c33 : PV → (PV → R) → R) (c34 : PV → PV → (Int → R) → R) (c35 : PV → (PV → R) → R) (c36 : PV → (PV → R) → R) (ret0 : Bool → R) (p1 : PV) (p2 : PV) (n3 : Int) (n4 : Int) (p5 : PV) : R :=
  f7_e c14 c15 c16 c17 c18 c19 c21 c22 c23 c24 c25 c26 c27 c28 c29 c30 c31 c32 c33 c34 c35 c36 ret0 (fun p34 p35 n40 => f7_w1N k c14 c15 c16 c17 c18 c19 c21 c22 c23 c24 c25 c26 c27 c28 c29 c30 c31 c32 c33 c34 c35 c36 ret0 p34 p35 n40) (fun p34 p35 n45 => f7_w2N k c14 c15 c16 c17 c18 c19 c21 c22 c23 c24 c25 c26 c27 c28 c29 c30 c31 c32 c33 c34 c35 c36 ret0 p34 p35 n45) p1 p2 n3 n4 p5
theorem f7_eq (k : Nat) (c14 : (Bool → R) → R) (c15 : PV → (PV → R) → R) (c16 : PV → (Int → R) → R) (c17 : PV → (PV → R) → R) (c18 : PV → (PV → R) → R) (c19 : PV → (Int → Bool → R) → R) (c21 : PV → (PV → R) → R) (c22 : Int → Int → (PV → R) → R) (c23 : PV → Int → (Bool → R) → R) (c24 : PV → PV → (Int → R) → R) (c25 : PV → PV → (PV → R) → R) (c26 : PV → PV → (PV → R) → R) (c27 : PV → PV → (PV → R) → R) (c28 : PV → (PV → R) → R) (c29 : PV → (PV → R) → R) (c30 : Int → Int → (PV → R) → R) (c31 : PV → PV → (PV → R) → R) (c32 : PV → PV → (PV → R) → R) (c33 : PV → (PV → R) → R) (c34 : PV → PV → (Int → R) → R) (c35 : PV → (PV → R) → R) (c36 : PV → (PV → R) → R) (retF : Bool → R) (p1 : PV) (p2 : PV) (n3 : Int) (n4 : Int) (p5 : PV) : exec (f7_E k c14 c15 c16 c17 c18 c19 c21 c22 c23 c24 c25 c26 c27 c28 c29 c30 c31 c32 c33 c34 c35 c36) f7_code (endK (f7_E k c14 c15 c16 c17 c18 c19 c21 c22 c23 c24 c25 c26 c27 c28 c29 c30 c31 c32 c33 c34 c35 c36) Try.f7 [] f7_un retF) ⟨[.val 24 p1, .val 24 p2, .int .u8 n3, .int .u8 n4, .val 32 p5, .undef, .undef, .undef, .undef, .undef, .undef, .undef, .undef, .undef, .undef, .undef, .undef, .undef, .undef, .undef, .undef, .undef, .undef, .undef, .undef, .undef, .undef, .undef, .undef, .undef, .undef, .undef, .undef, .undef, .undef, .undef, .undef, .undef, .undef, .undef, .undef, .undef, .undef, .undef, .undef, .undef, .undef, .undef, .undef, .undef, .undef, .undef, .undef, .undef, .undef, .undef, .undef, .undef, .undef, .undef, .undef, .undef, .undef, .undef, .undef, .undef, .undef, .undef, .undef, .undef, .undef, .undef, .undef, .undef, .undef, .undef, .undef, .undef, .undef, .undef, .undef, .undef, .undef, .undef, .undef, .undef, .undef, .undef, .undef, .undef, .undef, .undef, .undef, .undef, .undef, .undef, .undef, .undef, .undef, .undef, .undef, .undef, .undef, .undef, .undef, .undef, .undef, .undef, .undef, .undef, .undef, .undef, .undef, .undef, .undef, .undef, .undef, .undef, .undef, .undef, .undef, .undef, .undef, .undef, .undef, .undef, .undef, .undef, .undef, .undef, .undef, .undef, .undef, .undef, .undef, .undef, .undef, .undef, .undef, .undef, .undef, .undef, .undef, .undef, .undef, .undef, .undef, .undef, .undef, .undef, .undef, .undef, .undef, .undef, .undef, .undef, .undef, .undef, .undef, .undef, .undef, .undef, .undef, .undef, .undef, .undef, .undef, .undef, .undef, .undef, .undef, .undef, .undef, .undef, .undef, .undef, .undef, .undef, .undef, .undef, .undef], []⟩ = f7_N k c14 c15 c16 c17 c18 c19 c21 c22 c23 c24 c25 c26 c27 c28 c29 c30 c31 c32 c33 c34 c35 c36 (fun y0 => retF y0) p1 p2 n3 n4 p5 :=
  (f7_e_mem k c14 c15 c16 c17 c18 c19 c21 c22 c23 c24 c25 c26 c27 c28 c29 c30 c31 c32 c33 c34 c35 c36 retF p1 p2 n3 n4 p5).trans (by rw [show (fun p34 p35 n40 => f7_w1A k c14 c15 c16 c17 c18 c19 c21 c22 c23 c24 c25 c26 c27 c28 c29 c30 c31 c32 c33 c34 c35 c36 retF p34 p35 n40) = (fun p34 p35 n40 => f7_w1N k c14 c15 c16 c17 c18 c19 c21 c22 c23 c24 c25 c26 c27 c28 c29 c30 c31 c32 c33 c34 c35 c36 (fun y0 => retF y0) p34 p35 n40) from funext fun p34 => funext fun p35 => funext fun n40 => f7_w1_eq k c14 c15 c16 c17 c18 c19 c21 c22 c23 c24 c25 c26 c27 c28 c29 c30 c31 c32 c33 c34 c35 c36 retF p34 p35 n40, show (fun p34 p35 n45 => f7_w2A k c14 c15 c16 c17 c18 c19 c21 c22 c23 c24 c25 c26 c27 c28 c29 c30 c31 c32 c33 c34 c35 c36 retF p34 p35 n45) = (fun p34 p35 n45 => f7_w2N k c14 c15 c16 c17 c18 c19 c21 c22 c23 c24 c25 c26 c27 c28 c29 c30 c31 c32 c33 c34 c35 c36 (fun y0 => retF y0) p34 p35 n45) from funext fun p34 => funext fun p35 => funext fun n45 => f7_w2_eq k c14 c15 c16 c17 c18 c19 c21 c22 c23 c24 c25 c26 c27 c28 c29 c30 c31 c32 c33 c34 c35 c36 retF p34 p35 n45]; rfl)

noncomputable def G7 : Nat → PV → PV → Int → Int → PV → (Bool → R) → R
  | 0, _, _, _, _, _, _ => none
  | k + 1, p1, p2, n3, n4, p5, ret0 => f7_N k (G14 k) (G15 k) (G16 k) (G17 k) (G18 k) (G19 k) (G21 k) (G22 k) (G23 k) (G24 k) (G25 k) (G26 k) (G27 k) (G28 k) (G29 k) (G30 k) (G31 k) (G32 k) (G33 k) (G34 k) (G35 k) (G36 k) ret0 p1 p2 n3 n4 p5
theorem S7 : ∀ k, Snd Try.prog 7 f7_I f7_O (fun x ret => G7 k x.1 x.2.1 x.2.2.1 x.2.2.2.1 x.2.2.2.2 (fun y0 => ret y0))
  | 0 => snd_none
  | k + 1 => snd_step (E := f7_E k (G14 k) (G15 k) (G16 k) (G17 k) (G18 k) (G19 k) (G21 k) (G22 k) (G23 k) (G24 k) (G25 k) (G26 k) (G27 k) (G28 k) (G29 k) (G30 k) (G31 k) (G32 k) (G33 k) (G34 k) (G35 k) (G36 k)) rfl laidOut noNums (orc_ok (S14 k).o f14_D_ok (orc_ok (S15 k).o f15_D_ok (orc_ok (S16 k).o f16_D_ok (orc_ok (S17 k).o f17_D_ok (orc_ok (S18 k).o f18_D_ok (orc_ok (S19 k).o f19_D_ok (orc_ok (S21 k).o f21_D_ok (orc_ok (S22 k).o f22_D_ok (orc_ok (S23 k).o f23_D_ok (orc_ok (S24 k).o f24_D_ok (orc_ok (S25 k).o f25_D_ok (orc_ok (S26 k).o f26_D_ok (orc_ok (S27 k).o f27_D_ok (orc_ok (S28 k).o f28_D_ok (orc_ok (S29 k).o f29_D_ok (orc_ok (S30 k).o f30_D_ok (orc_ok (S31 k).o f31_D_ok (orc_ok (S32 k).o f32_D_ok (orc_ok (S33 k).o f33_D_ok (orc_ok (S34 k).o f34_D_ok (orc_ok (S35 k).o f35_D_ok (orc_ok (S36 k).o f36_D_ok orc0_ok)))))))))))))))))))))) (f := 7) (fn := Try.f7) (code := f7_code) Try.func7 (by kernel_rfl) (drawsOk_of laidOut (orc_ok (S14 k).o f14_D_ok (orc_ok (S15 k).o f15_D_ok (orc_ok (S16 k).o f16_D_ok (orc_ok (S17 k).o f17_D_ok (orc_ok (S18 k).o f18_D_ok (orc_ok (S19 k).o f19_D_ok (orc_ok (S21 k).o f21_D_ok (orc_ok (S22 k).o f22_D_ok (orc_ok (S23 k).o f23_D_ok (orc_ok (S24 k).o f24_D_ok (orc_ok (S25 k).o f25_D_ok (orc_ok (S26 k).o f26_D_ok (orc_ok (S27 k).o f27_D_ok (orc_ok (S28 k).o f28_D_ok (orc_ok (S29 k).o f29_D_ok (orc_ok (S30 k).o f30_D_ok (orc_ok (S31 k).o f31_D_ok (orc_ok (S32 k).o f32_D_ok (orc_ok (S33 k).o f33_D_ok (orc_ok (S34 k).o f34_D_ok (orc_ok (S35 k).o f35_D_ok (orc_ok (S36 k).o f36_D_ok orc0_ok)))))))))))))))))))))) mixed (by kernel_rfl)) f7_un f7_un_ok [] (fun _ => rfl)
      (fun x ret => f7_eq k (G14 k) (G15 k) (G16 k) (G17 k) (G18 k) (G19 k) (G21 k) (G22 k) (G23 k) (G24 k) (G25 k) (G26 k) (G27 k) (G28 k) (G29 k) (G30 k) (G31 k) (G32 k) (G33 k) (G34 k) (G35 k) (G36 k) ret x.1 x.2.1 x.2.2.1 x.2.2.2.1 x.2.2.2.2)

/- catchpole/class.classes -/
noncomputable def f66_I : Unit → List SV × Obs := fun x => ([], [])
noncomputable def f66_D : List SV → Obs → Option (Unit)
  | [], [] => some ()
  | _, _ => none
theorem f66_D_ok (args : List SV) (B : Obs) (x : Unit) (h : f66_D args B = some x) : f66_I x = (args, B) := by
  unfold f66_D at h
  split at h
  · injection h with h; subst h; rfl
  · cases h
noncomputable def f66_O : PV → Out := (fun y => ([.val 97 y], []))
noncomputable def f66_un : Out → Option (PV)
  | ([.val 97 y0], []) => some y0
  | _ => none
theorem f66_un_ok (o : Out) (y : PV) (h : f66_un o = some y) : o = f66_O y := by
  unfold f66_un at h
  split at h
  · injection h with h; subst h; rfl
  · cases h
noncomputable def f66_msk : Nat → Option (List Nat) := fun key =>  none
noncomputable def f66_C (c18 : PV → (PV → R) → R) (c22 : Int → Int → (PV → R) → R) (c25 : PV → PV → (PV → R) → R) (c27 : PV → PV → (PV → R) → R) : Oracle := orc 18 f18_D f18_O (fun x ret => c18 x (fun y0 => ret y0)) <| orc 22 f22_D f22_O (fun x ret => c22 x.1 x.2 (fun y0 => ret y0)) <| orc 25 f25_D f25_O (fun x ret => c25 x.1 x.2 (fun y0 => ret y0)) <| orc 27 f27_D f27_O (fun x ret => c27 x.1 x.2 (fun y0 => ret y0)) <| orc0
noncomputable def f66_E (k : Nat) (c18 : PV → (PV → R) → R) (c22 : Int → Int → (PV → R) → R) (c25 : PV → PV → (PV → R) → R) (c27 : PV → PV → (PV → R) → R) : Env := { P := Try.prog, nilOwn := fun d => false, fldOwn := fun d i => false, ownPar := ownPars, ownRet := false, mask := f66_msk, fuel := k, C := f66_C c18 c22 c25 c27 }
noncomputable def f66_code : Code := Try.f66.body.getD .skip
noncomputable def f66_e (c18 : PV → (PV → R) → R) (c22 : Int → Int → (PV → R) → R) (c25 : PV → PV → (PV → R) → R) (c27 : PV → PV → (PV → R) → R) (ret0 : PV → R) : R :=
  c22 65 90 fun p1 =>
  c22 97 122 fun p2 =>
  c22 48 57 fun p3 =>
  c25 p1 p2 fun p4 =>
  c25 p4 p3 fun p5 =>
  c22 33 126 fun p6 =>
  c18 (PV.list [(PV.int 32), (PV.int 9)]) fun p7 =>
  c22 0 31 fun p8 =>
  c18 (PV.list [(PV.int 127)]) fun p9 =>
  c25 p8 p9 fun p10 =>
  c18 (PV.list [(PV.int 32)]) fun p11 =>
  c25 p6 p11 fun p12 =>
  c27 p6 p5 fun p13 =>
  c22 9 13 fun p14 =>
  c25 p7 p14 fun p15 =>
  c22 65 70 fun p16 =>
  c25 p3 p16 fun p17 =>
  c22 97 102 fun p18 =>
  c25 p17 p18 fun p19 =>
  ret0 (PV.list [(PV.agg [(PV.str [97, 108, 110, 117, 109]), p5]), (PV.agg [(PV.str [97, 108, 112, 104, 97]), p4]), (PV.agg [(PV.str [98, 108, 97, 110, 107]), p7]), (PV.agg [(PV.str [99, 110, 116, 114, 108]), p10]), (PV.agg [(PV.str [100, 105, 103, 105, 116]), p3]), (PV.agg [(PV.str [103, 114, 97, 112, 104]), p6]), (PV.agg [(PV.str [108, 111, 119, 101, 114]), p2]), (PV.agg [(PV.str [112, 114, 105, 110, 116]), p12]), (PV.agg [(PV.str [112, 117, 110, 99, 116]), p13]), (PV.agg [(PV.str [115, 112, 97, 99, 101]), p15]), (PV.agg [(PV.str [117, 112, 112, 101, 114]), p1]), (PV.agg [(PV.str [120, 100, 105, 103, 105, 116]), p19])])

theorem f66_e_mem (k : Nat) (c18 : PV → (PV → R) → R) (c22 : Int → Int → (PV → R) → R) (c25 : PV → PV → (PV → R) → R) (c27 : PV → PV → (PV → R) → R) (retF : PV → R) : exec (f66_E k c18 c22 c25 c27) f66_code (endK (f66_E k c18 c22 c25 c27) Try.f66 [] f66_un retF) ⟨[.undef, .undef, .undef, .undef, .undef, .undef, .undef, .undef, .undef, .undef, .undef, .undef, .undef, .undef, .undef, .undef, .undef, .undef, .undef, .undef, .undef, .undef, .undef, .undef, .undef, .undef, .undef, .undef, .undef, .undef, .undef, .undef, .undef, .undef, .undef, .undef, .undef, .undef, .undef, .undef, .undef, .undef, .undef, .undef, .undef, .undef, .undef, .undef, .undef, .undef, .undef, .undef, .undef, .undef, .undef, .undef, .undef, .undef, .undef], []⟩ = f66_e c18 c22 c25 c27 (fun y0 => retF y0) := by kernel_rfl

noncomputable def f66_N (k : Nat) (c18 : PV → (PV → R) → R) (c22 : Int → Int → (PV → R) → R) (c25 : PV → PV → (PV → R) → R) (c27 : PV → PV → (PV → R) → R) (ret0 : PV → R) : R :=
  f66_e c18 c22 c25 c27 ret0
theorem f66_eq (k : Nat) (c18 : PV → (PV → R) → R) (c22 : Int → Int → (PV → R) → R) (c25 : PV → PV → (PV → R) → R) (c27 : PV → PV → (PV → R) → R) (retF : PV → R) : exec (f66_E k c18 c22 c25 c27) f66_code (endK (f66_E k c18 c22 c25 c27) Try.f66 [] f66_un retF) ⟨[.undef, .undef, .undef, .undef, .undef, .undef, .undef, .undef, .undef, .undef, .undef, .undef, .undef, .undef, .undef, .undef, .undef, .undef, .undef, .undef, .undef, .undef, .undef, .undef, .undef, .undef, .undef, .undef, .undef, .undef, .undef, .undef, .undef, .undef, .undef, .undef, .undef, .undef, .undef, .undef, .undef, .undef, .undef, .undef, .undef, .undef, .undef, .undef, .undef, .undef, .undef, .undef, .undef, .undef, .undef, .undef, .undef, .undef, .undef], []⟩ = f66_N k c18 c22 c25 c27 (fun y0 => retF y0) :=
  (f66_e_mem k c18 c22 c25 c27 retF)

noncomputable def G66 : Nat → (PV → R) → R
  | 0, _ => none
  | k + 1, ret0 => f66_N k (G18 k) (G22 k) (G25 k) (G27 k) ret0 
theorem S66 : ∀ k, Snd Try.prog 66 f66_I f66_O (fun x ret => G66 k (fun y0 => ret y0))
  | 0 => snd_none
  | k + 1 => snd_step (E := f66_E k (G18 k) (G22 k) (G25 k) (G27 k)) rfl laidOut noNums (orc_ok (S18 k).o f18_D_ok (orc_ok (S22 k).o f22_D_ok (orc_ok (S25 k).o f25_D_ok (orc_ok (S27 k).o f27_D_ok orc0_ok)))) (f := 66) (fn := Try.f66) (code := f66_code) Try.func66 (by kernel_rfl) (drawsOk_of laidOut (orc_ok (S18 k).o f18_D_ok (orc_ok (S22 k).o f22_D_ok (orc_ok (S25 k).o f25_D_ok (orc_ok (S27 k).o f27_D_ok orc0_ok)))) mixed (by kernel_rfl)) f66_un f66_un_ok [] (fun _ => rfl)
      (fun x ret => f66_eq k (G18 k) (G22 k) (G25 k) (G27 k) ret)

/- catchpole/class.Named$1 -/
noncomputable def f68_I : PV × (List Int) → List SV × Obs := fun x => ([.val 101 x.1, .ptr 4000000 []], [(4000000, .box 9 (.str x.2))])
noncomputable def f68_D : List SV → Obs → Option (PV × (List Int))
  | [.val 101 p1, .ptr 4000000 []], [(4000000, .box 9 (.str s2))] => some (p1, s2)
  | _, _ => none
theorem f68_D_ok (args : List SV) (B : Obs) (x : PV × (List Int)) (h : f68_D args B = some x) : f68_I x = (args, B) := by
  unfold f68_D at h
  split at h
  · injection h with h; subst h; rfl
  · cases h
noncomputable def f68_O : Bool × (List Int) → Out := (fun y => ([.bool y.1], [(4000000, .box 9 (.str y.2))]))
noncomputable def f68_un : Out → Option (Bool × (List Int))
  | ([.bool y0], [(4000000, .box 9 (.str y1))]) => some (y0, y1)
  | _ => none
theorem f68_un_ok (o : Out) (y : Bool × (List Int)) (h : f68_un o = some y) : o = f68_O y := by
  unfold f68_un at h
  split at h
  · injection h with h; subst h; rfl
  · cases h
noncomputable def f68_msk : Nat → Option (List Nat) := fun key =>  none
noncomputable def f68_C : Oracle := orc0
noncomputable def f68_E (k : Nat) : Env := { P := Try.prog, nilOwn := fun d => false, fldOwn := fun d i => false, ownPar := ownPars, ownRet := false, mask := f68_msk, fuel := k, C := f68_C }
noncomputable def f68_code : Code := Try.f68.body.getD .skip
noncomputable def f68_e (ret0 : Bool → (List Int) → R) (p1 : PV) (s2 : List Int) : R :=
  ret0 (decide (((PV.chars (PV.fld p1 0)) : List Int) = s2)) s2

theorem f68_e_mem (k : Nat) (retF : Bool × (List Int) → R) (p1 : PV) (s2 : List Int) : exec (f68_E k) f68_code (endK (f68_E k) Try.f68 [4000000] f68_un retF) ⟨[.val 101 p1, .ptr 4000000 [], .undef, .undef, .undef, .undef, .undef, .undef], [(4000000, .box 9 (.str s2))]⟩ = f68_e (fun y0 y1 => retF (y0, y1)) p1 s2 := by kernel_rfl

noncomputable def f68_N (k : Nat) (ret0 : Bool → (List Int) → R) (p1 : PV) (s2 : List Int) : R :=
  f68_e ret0 p1 s2
theorem f68_eq (k : Nat) (retF : Bool × (List Int) → R) (p1 : PV) (s2 : List Int) : exec (f68_E k) f68_code (endK (f68_E k) Try.f68 [4000000] f68_un retF) ⟨[.val 101 p1, .ptr 4000000 [], .undef, .undef, .undef, .undef, .undef, .undef], [(4000000, .box 9 (.str s2))]⟩ = f68_N k (fun y0 y1 => retF (y0, y1)) p1 s2 :=
  (f68_e_mem k retF p1 s2)

noncomputable def G68 : Nat → PV → (List Int) → (Bool → (List Int) → R) → R
  | 0, _, _, _ => none
  | k + 1, p1, s2, ret0 => f68_N k  ret0 p1 s2
theorem S68 : ∀ k, Snd Try.prog 68 f68_I f68_O (fun x ret => G68 k x.1 x.2 (fun y0 y1 => ret (y0, y1)))
  | 0 => snd_none
  | k + 1 => snd_step (E := f68_E k ) rfl laidOut noNums orc0_ok (f := 68) (fn := Try.f68) (code := f68_code) Try.func68 (by kernel_rfl) (drawsOk_of laidOut orc0_ok mixed (by kernel_rfl)) f68_un f68_un_ok [4000000] (fun _ => rfl)
      (fun x ret => f68_eq k  ret x.1 x.2)

/- slices.IndexFunc[[]catchpole/class.named,catchpole/class.named] -/
noncomputable def f67_I : PV × (List Int) → List SV × Obs := fun x => ([.val 97 x.1, .fn 68 [.ptr 4001000 []]], [(4001000, .box 9 (.str x.2))])
noncomputable def f67_D : List SV → Obs → Option (PV × (List Int))
  | [.val 97 p1, .fn 68 [.ptr 4001000 []]], [(4001000, .box 9 (.str s2))] => some (p1, s2)
  | _, _ => none
theorem f67_D_ok (args : List SV) (B : Obs) (x : PV × (List Int)) (h : f67_D args B = some x) : f67_I x = (args, B) := by
  unfold f67_D at h
  split at h
  · injection h with h; subst h; rfl
  · cases h
noncomputable def f67_O : Int × (List Int) → Out := (fun y => ([.int .i64 y.1], [(4001000, .box 9 (.str y.2))]))
noncomputable def f67_un : Out → Option (Int × (List Int))
  | ([.int .i64 y0], [(4001000, .box 9 (.str y1))]) => some (y0, y1)
  | _ => none
theorem f67_un_ok (o : Out) (y : Int × (List Int)) (h : f67_un o = some y) : o = f67_O y := by
  unfold f67_un at h
  split at h
  · injection h with h; subst h; rfl
  · cases h
noncomputable def f67_msk : Nat → Option (List Nat) := fun key => bif key == 6 then some [0, 1, 7, 8] else none
noncomputable def f67_C (c68 : PV → (List Int) → (Bool → (List Int) → R) → R) : Oracle := orc 68 f68_D f68_O (fun x ret => c68 x.1 x.2 (fun y0 y1 => ret (y0, y1))) <| orc0
noncomputable def f67_E (k : Nat) (c68 : PV → (List Int) → (Bool → (List Int) → R) → R) : Env := { P := Try.prog, nilOwn := fun d => false, fldOwn := fun d i => false, ownPar := ownPars, ownRet := false, mask := f67_msk, fuel := k, C := f67_C c68 }
noncomputable def f67_code : Code := Try.f67.body.getD .skip
noncomputable def f67_cw1 : Code := subC f67_code [1, 0, 1, 0, 0]
noncomputable def f67_hw1_0 (p1 : PV) (n5 : Int) (s6 : List Int) : St := ⟨[.val 97 p1, .fn 68 [.ptr 4001000 []], .dead, .dead, .dead, .dead, .dead, .int .i64 (List.length (PV.els p1) : Int), .int .i64 n5, .dead, .dead, .dead, .dead, .dead, .dead, .dead, .dead, .dead, .dead], [(4001000, .box 9 (.str s6))]⟩
noncomputable def f67_w1A (k : Nat) (c68 : PV → (List Int) → (Bool → (List Int) → R) → R) (retF : Int × (List Int) → R) (p1 : PV) (n5 : Int) (s6 : List Int) : R := loopM (f67_E k c68) f67_cw1 (kont (f67_E k c68) f67_code [1, 0, 1, 0] (endK (f67_E k c68) Try.f67 [4001000] f67_un retF)) k (f67_hw1_0 p1 n5 s6)
noncomputable def f67_w1b0 (c68 : PV → (List Int) → (Bool → (List Int) → R) → R) (ret0 : Int → (List Int) → R) (next_w1_0 : Int → (List Int) → R) (p1 : PV) (n5 : Int) (s6 : List Int) : R :=
  bif (decide (n5 < (List.length (PV.els p1) : Int))) then
    bif (true && decide ((0 : Int) ≤ n5) && decide (n5 < (List.length (PV.els p1) : Int))) then
      c68 (List.getD (PV.els p1) (n5).toNat PV.nil) s6 fun b7 s8 =>
      bif b7 then
        ret0 n5 s8
      else next_w1_0 (IntKind.wrap .i64 (n5 + (1 : Int))) s8
    else none
  else ret0 (-1) s6

theorem f67_w1b0_mem (k : Nat) (c68 : PV → (List Int) → (Bool → (List Int) → R) → R) (retF : Int × (List Int) → R) (NX_w1 : St → R) (p1 : PV) (n5 : Int) (s6 : List Int) : exec (f67_E k c68) f67_cw1 (purgeK (f67_E k c68) f67_cw1 (loopK NX_w1 (kont (f67_E k c68) f67_code [1, 0, 1, 0] (endK (f67_E k c68) Try.f67 [4001000] f67_un retF)))) (f67_hw1_0 p1 n5 s6) = f67_w1b0 c68 (fun y0 y1 => retF (y0, y1)) (fun n5 s6 => NX_w1 (f67_hw1_0 p1 n5 s6)) p1 n5 s6 := by kernel_rfl

noncomputable def f67_w1b0N (k : Nat) (c68 : PV → (List Int) → (Bool → (List Int) → R) → R) (ret0 : Int → (List Int) → R) (next_w1_0 : Int → (List Int) → R) (p1 : PV) (n5 : Int) (s6 : List Int) : R :=
  f67_w1b0 c68 ret0 next_w1_0 p1 n5 s6
theorem f67_w1b0_eq (k : Nat) (c68 : PV → (List Int) → (Bool → (List Int) → R) → R) (retF : Int × (List Int) → R) (NX_w1 : St → R) (p1 : PV) (n5 : Int) (s6 : List Int) : exec (f67_E k c68) f67_cw1 (purgeK (f67_E k c68) f67_cw1 (loopK NX_w1 (kont (f67_E k c68) f67_code [1, 0, 1, 0] (endK (f67_E k c68) Try.f67 [4001000] f67_un retF)))) (f67_hw1_0 p1 n5 s6) = f67_w1b0N k c68 (fun y0 y1 => retF (y0, y1)) (fun n5 s6 => NX_w1 (f67_hw1_0 p1 n5 s6)) p1 n5 s6 :=
  (f67_w1b0_mem k c68 retF NX_w1 p1 n5 s6)

noncomputable def f67_w1B (k : Nat) (c68 : PV → (List Int) → (Bool → (List Int) → R) → R) (ret0 : Int → (List Int) → R) (p1 : PV) (nx : Int × (List Int) → R) : Int × (List Int) → R := (fun s => f67_w1b0N k c68 ret0 (fun n5 s6 => nx (n5, s6)) p1 s.1 s.2)
noncomputable def f67_w1N (k : Nat) (c68 : PV → (List Int) → (Bool → (List Int) → R) → R) (ret0 : Int → (List Int) → R) (p1 : PV) (n5 : Int) (s6 : List Int) : R := loopR (f67_w1B k c68 ret0 p1) k (n5, s6)
theorem f67_w1_eq (k : Nat) (c68 : PV → (List Int) → (Bool → (List Int) → R) → R) (retF : Int × (List Int) → R) (p1 : PV) (n5 : Int) (s6 : List Int) : f67_w1A k c68 retF p1 n5 s6 = f67_w1N k c68 (fun y0 y1 => retF (y0, y1)) p1 n5 s6 :=
  Eq.mp (by kernel_rfl) (loop_sim (E := (f67_E k c68)) (c := f67_cw1) (K := (kont (f67_E k c68) f67_code [1, 0, 1, 0] (endK (f67_E k c68) Try.f67 [4001000] f67_un retF))) (S := Int × (List Int)) (fun s => f67_hw1_0 p1 s.1 s.2) (f67_w1B k c68 (fun y0 y1 => retF (y0, y1)) p1) (fun NX s => by
    exact Eq.mp (by kernel_rfl) (f67_w1b0_eq k c68 retF NX p1 s.1 s.2)) k (n5, s6))

noncomputable def f67_e (c68 : PV → (List Int) → (Bool → (List Int) → R) → R) (ret0 : Int → (List Int) → R) (w1 : Int → (List Int) → R) (p1 : PV) (s2 : List Int) : R :=
  w1 0 s2

theorem f67_e_mem (k : Nat) (c68 : PV → (List Int) → (Bool → (List Int) → R) → R) (retF : Int × (List Int) → R) (p1 : PV) (s2 : List Int) : exec (f67_E k c68) f67_code (endK (f67_E k c68) Try.f67 [4001000] f67_un retF) ⟨[.val 97 p1, .fn 68 [.ptr 4001000 []], .undef, .undef, .undef, .undef, .undef, .undef, .undef, .undef, .undef, .undef, .undef, .undef, .undef, .undef, .undef, .undef, .undef], [(4001000, .box 9 (.str s2))]⟩ = f67_e c68 (fun y0 y1 => retF (y0, y1)) (fun n5 s6 => f67_w1A k c68 retF p1 n5 s6) p1 s2 := by kernel_rfl

noncomputable def f67_N (k : Nat) (c68 : PV → (List Int) → (Bool → (List Int) → R) → R) (ret0 : Int → (List Int) → R) (p1 : PV) (s2 : List Int) : R :=
  f67_e c68 ret0 (fun n5 s6 => f67_w1N k c68 ret0 p1 n5 s6) p1 s2
theorem f67_eq (k : Nat) (c68 : PV → (List Int) → (Bool → (List Int) → R) → R) (retF : Int × (List Int) → R) (p1 : PV) (s2 : List Int) : exec (f67_E k c68) f67_code (endK (f67_E k c68) Try.f67 [4001000] f67_un retF) ⟨[.val 97 p1, .fn 68 [.ptr 4001000 []], .undef, .undef, .undef, .undef, .undef, .undef, .undef, .undef, .undef, .undef, .undef, .undef, .undef, .undef, .undef, .undef, .undef], [(4001000, .box 9 (.str s2))]⟩ = f67_N k c68 (fun y0 y1 => retF (y0, y1)) p1 s2 :=
  (f67_e_mem k c68 retF p1 s2).trans (by rw [show (fun n5 s6 => f67_w1A k c68 retF p1 n5 s6) = (fun n5 s6 => f67_w1N k c68 (fun y0 y1 => retF (y0, y1)) p1 n5 s6) from funext fun n5 => funext fun s6 => f67_w1_eq k c68 retF p1 n5 s6]; rfl)

noncomputable def G67 : Nat → PV → (List Int) → (Int → (List Int) → R) → R
  | 0, _, _, _ => none
  | k + 1, p1, s2, ret0 => f67_N k (G68 k) ret0 p1 s2
theorem S67 : ∀ k, Snd Try.prog 67 f67_I f67_O (fun x ret => G67 k x.1 x.2 (fun y0 y1 => ret (y0, y1)))
  | 0 => snd_none
  | k + 1 => snd_step (E := f67_E k (G68 k)) rfl laidOut noNums (orc_ok (S68 k).o f68_D_ok orc0_ok) (f := 67) (fn := Try.f67) (code := f67_code) Try.func67 (by kernel_rfl) (drawsOk_of laidOut (orc_ok (S68 k).o f68_D_ok orc0_ok) mixed (by kernel_rfl)) f67_un f67_un_ok [4001000] (fun _ => rfl)
      (fun x ret => f67_eq k (G68 k) ret x.1 x.2)

/- catchpole/class.Named -/
noncomputable def f38_I : (List Int) → List SV × Obs := fun x => ([.str x], [])
noncomputable def f38_D : List SV → Obs → Option ((List Int))
  | [.str s1], [] => some s1
  | _, _ => none
theorem f38_D_ok (args : List SV) (B : Obs) (x : (List Int)) (h : f38_D args B = some x) : f38_I x = (args, B) := by
  unfold f38_D at h
  split at h
  · injection h with h; subst h; rfl
  · cases h
noncomputable def f38_O : PV × Bool → Out := (fun y => ([.val 24 y.1, .bool y.2], []))
noncomputable def f38_un : Out → Option (PV × Bool)
  | ([.val 24 y0, .bool y1], []) => some (y0, y1)
  | _ => none
theorem f38_un_ok (o : Out) (y : PV × Bool) (h : f38_un o = some y) : o = f38_O y := by
  unfold f38_un at h
  split at h
  · injection h with h; subst h; rfl
  · cases h
noncomputable def f38_msk : Nat → Option (List Nat) := fun key =>  none
noncomputable def f38_C (c66 : (PV → R) → R) (c67 : PV → (List Int) → (Int → (List Int) → R) → R) : Oracle := orc 66 f66_D f66_O (fun x ret => c66 (fun y0 => ret y0)) <| orc 67 f67_D f67_O (fun x ret => c67 x.1 x.2 (fun y0 y1 => ret (y0, y1))) <| orc0
noncomputable def f38_E (k : Nat) (c66 : (PV → R) → R) (c67 : PV → (List Int) → (Int → (List Int) → R) → R) : Env := { P := Try.prog, nilOwn := fun d => false, fldOwn := fun d i => false, ownPar := ownPars, ownRet := false, mask := f38_msk, fuel := k, C := f38_C c66 c67 }
noncomputable def f38_code : Code := Try.f38.body.getD .skip
noncomputable def f38_e (c66 : (PV → R) → R) (c67 : PV → (List Int) → (Int → (List Int) → R) → R) (ret0 : PV → Bool → R) (s1 : List Int) : R :=
  c66 fun p2 =>
  c67 p2 s1 fun n3 s4 =>
  bif (decide (n3 < (0 : Int))) then
    ret0 (PV.agg [(PV.int 0), (PV.int 0), (PV.int 0), (PV.int 0)]) false
  else bif (true && decide ((0 : Int) ≤ n3) && decide (n3 < (List.length (PV.els p2) : Int))) then
    ret0 (PV.fld (List.getD (PV.els p2) (n3).toNat PV.nil) 1) true
  else none

theorem f38_e_mem (k : Nat) (c66 : (PV → R) → R) (c67 : PV → (List Int) → (Int → (List Int) → R) → R) (retF : PV × Bool → R) (s1 : List Int) : exec (f38_E k c66 c67) f38_code (endK (f38_E k c66 c67) Try.f38 [] f38_un retF) ⟨[.str s1, .undef, .undef, .undef, .undef, .undef, .undef, .undef, .undef, .undef, .undef, .undef, .undef, .undef, .undef, .undef, .undef, .undef], []⟩ = f38_e c66 c67 (fun y0 y1 => retF (y0, y1)) s1 := by kernel_rfl

noncomputable def f38_N (k : Nat) (c66 : (PV → R) → R) (c67 : PV → (List Int) → (Int → (List Int) → R) → R) (ret0 : PV → Bool → R) (s1 : List Int) : R :=
  f38_e c66 c67 ret0 s1
theorem f38_eq (k : Nat) (c66 : (PV → R) → R) (c67 : PV → (List Int) → (Int → (List Int) → R) → R) (retF : PV × Bool → R) (s1 : List Int) : exec (f38_E k c66 c67) f38_code (endK (f38_E k c66 c67) Try.f38 [] f38_un retF) ⟨[.str s1, .undef, .undef, .undef, .undef, .undef, .undef, .undef, .undef, .undef, .undef, .undef, .undef, .undef, .undef, .undef, .undef, .undef], []⟩ = f38_N k c66 c67 (fun y0 y1 => retF (y0, y1)) s1 :=
  (f38_e_mem k c66 c67 retF s1)

noncomputable def G38 : Nat → (List Int) → (PV → Bool → R) → R
  | 0, _, _ => none
  | k + 1, s1, ret0 => f38_N k (G66 k) (G67 k) ret0 s1
theorem S38 : ∀ k, Snd Try.prog 38 f38_I f38_O (fun x ret => G38 k x (fun y0 y1 => ret (y0, y1)))
  | 0 => snd_none
  | k + 1 => snd_step (E := f38_E k (G66 k) (G67 k)) rfl laidOut noNums (orc_ok (S66 k).o f66_D_ok (orc_ok (S67 k).o f67_D_ok orc0_ok)) (f := 38) (fn := Try.f38) (code := f38_code) Try.func38 (by kernel_rfl) (drawsOk_of laidOut (orc_ok (S66 k).o f66_D_ok (orc_ok (S67 k).o f67_D_ok orc0_ok)) mixed (by kernel_rfl)) f38_un f38_un_ok [] (fun _ => rfl)
      (fun x ret => f38_eq k (G66 k) (G67 k) ret x)

/- catchpole/class.Names$1 -/
noncomputable def f72_I : PV → List SV × Obs := fun x => ([.val 24 x], [])
noncomputable def f72_D : List SV → Obs → Option (PV)
  | [.val 24 p1], [] => some p1
  | _, _ => none
theorem f72_D_ok (args : List SV) (B : Obs) (x : PV) (h : f72_D args B = some x) : f72_I x = (args, B) := by
  unfold f72_D at h
  split at h
  · injection h with h; subst h; rfl
  · cases h
noncomputable def f72_O : Bool → Out := (fun y => ([.bool y], []))
noncomputable def f72_un : Out → Option (Bool)
  | ([.bool y0], []) => some y0
  | _ => none
theorem f72_un_ok (o : Out) (y : Bool) (h : f72_un o = some y) : o = f72_O y := by
  unfold f72_un at h
  split at h
  · injection h with h; subst h; rfl
  · cases h
noncomputable def f72_msk : Nat → Option (List Nat) := fun key =>  none
noncomputable def f72_C : Oracle := orc0
noncomputable def f72_E (k : Nat) : Env := { P := Try.prog, nilOwn := fun d => false, fldOwn := fun d i => false, ownPar := ownPars, ownRet := false, mask := f72_msk, fuel := k, C := f72_C }
noncomputable def f72_code : Code := Try.f72.body.getD .skip
noncomputable def f72_e (ret0 : Bool → R) (p1 : PV) : R :=
  ret0 true

theorem f72_e_mem (k : Nat) (retF : Bool → R) (p1 : PV) : exec (f72_E k) f72_code (endK (f72_E k) Try.f72 [] f72_un retF) ⟨[.val 24 p1, .undef, .undef], []⟩ = f72_e (fun y0 => retF y0) p1 := by kernel_rfl

noncomputable def f72_N (k : Nat) (ret0 : Bool → R) (p1 : PV) : R :=
  f72_e ret0 p1
theorem f72_eq (k : Nat) (retF : Bool → R) (p1 : PV) : exec (f72_E k) f72_code (endK (f72_E k) Try.f72 [] f72_un retF) ⟨[.val 24 p1, .undef, .undef], []⟩ = f72_N k (fun y0 => retF y0) p1 :=
  (f72_e_mem k retF p1)

noncomputable def G72 : Nat → PV → (Bool → R) → R
  | 0, _, _ => none
  | k + 1, p1, ret0 => f72_N k  ret0 p1
theorem S72 : ∀ k, Snd Try.prog 72 f72_I f72_O (fun x ret => G72 k x (fun y0 => ret y0))
  | 0 => snd_none
  | k + 1 => snd_step (E := f72_E k ) rfl laidOut noNums orc0_ok (f := 72) (fn := Try.f72) (code := f72_code) Try.func72 (by kernel_rfl) (drawsOk_of laidOut orc0_ok mixed (by kernel_rfl)) f72_un f72_un_ok [] (fun _ => rfl)
      (fun x ret => f72_eq k  ret x)

/- catchpole/class.those -/
noncomputable def f69_I : Unit → List SV × Obs := fun x => ([.fn 72 []], [])
noncomputable def f69_D : List SV → Obs → Option (Unit)
  | [.fn 72 []], [] => some ()
  | _, _ => none
theorem f69_D_ok (args : List SV) (B : Obs) (x : Unit) (h : f69_D args B = some x) : f69_I x = (args, B) := by
  unfold f69_D at h
  split at h
  · injection h with h; subst h; rfl
  · cases h
noncomputable def f69_O : PV → Out := (fun y => ([.val 64 y], []))
noncomputable def f69_un : Out → Option (PV)
  | ([.val 64 y0], []) => some y0
  | _ => none
theorem f69_un_ok (o : Out) (y : PV) (h : f69_un o = some y) : o = f69_O y := by
  unfold f69_un at h
  split at h
  · injection h with h; subst h; rfl
  · cases h
noncomputable def f69_msk : Nat → Option (List Nat) := fun key => bif key == 9 then some [0, 3, 6, 7, 8] else none
noncomputable def f69_C (c66 : (PV → R) → R) (c72 : PV → (Bool → R) → R) : Oracle := orc 66 f66_D f66_O (fun x ret => c66 (fun y0 => ret y0)) <| orc 72 f72_D f72_O (fun x ret => c72 x (fun y0 => ret y0)) <| orc0
noncomputable def f69_E (k : Nat) (c66 : (PV → R) → R) (c72 : PV → (Bool → R) → R) : Env := { P := Try.prog, nilOwn := fun d => d == 3, fldOwn := fun d i => false, ownPar := ownPars, ownRet := false, mask := f69_msk, fuel := k, C := f69_C c66 c72 }
noncomputable def f69_code : Code := Try.f69.body.getD .skip
noncomputable def f69_cw1 : Code := subC f69_code [1, 1, 0, 1, 0, 0]
noncomputable def f69_hw1_0 (p1 : PV) (n3 : Int) (l4 : List PV) : St := ⟨[.fn 72 [], .dead, .dead, .own 64 3, .dead, .dead, .val 97 p1, .int .i64 (List.length (PV.els p1) : Int), .int .i64 n3, .dead, .dead, .dead, .dead, .dead, .dead, .dead, .dead, .dead, .dead, .dead, .dead, .dead, .dead], [(3, .row 9 l4)]⟩
noncomputable def f69_w1A (k : Nat) (c66 : (PV → R) → R) (c72 : PV → (Bool → R) → R) (retF : PV → R) (p1 : PV) (n3 : Int) (l4 : List PV) : R := loopM (f69_E k c66 c72) f69_cw1 (kont (f69_E k c66 c72) f69_code [1, 1, 0, 1, 0] (endK (f69_E k c66 c72) Try.f69 [] f69_un retF)) k (f69_hw1_0 p1 n3 l4)
noncomputable def f69_w1b0 (c66 : (PV → R) → R) (c72 : PV → (Bool → R) → R) (ret0 : PV → R) (next_w1_0 : Int → (List PV) → R) (p1 : PV) (n3 : Int) (l4 : List PV) : R :=
  bif (decide (n3 < (List.length (PV.els p1) : Int))) then
    bif (true && decide ((0 : Int) ≤ n3) && decide (n3 < (List.length (PV.els p1) : Int))) then
      c72 (PV.fld (List.getD (PV.els p1) (n3).toNat PV.nil) 1) fun b5 =>
      bif b5 then
        bif (true && roomy (List.length l4 + List.length [(PV.str (PV.chars (PV.fld (List.getD (PV.els p1) (n3).toNat PV.nil) 0)))]) 16) then
          next_w1_0 (IntKind.wrap .i64 (n3 + (1 : Int))) (l4 ++ [(PV.str (PV.chars (PV.fld (List.getD (PV.els p1) (n3).toNat PV.nil) 0)))])
        else none
      else next_w1_0 (IntKind.wrap .i64 (n3 + (1 : Int))) l4
    else none
  else ret0 (PV.list l4)

theorem f69_w1b0_mem (k : Nat) (c66 : (PV → R) → R) (c72 : PV → (Bool → R) → R) (retF : PV → R) (NX_w1 : St → R) (p1 : PV) (n3 : Int) (l4 : List PV) : exec (f69_E k c66 c72) f69_cw1 (purgeK (f69_E k c66 c72) f69_cw1 (loopK NX_w1 (kont (f69_E k c66 c72) f69_code [1, 1, 0, 1, 0] (endK (f69_E k c66 c72) Try.f69 [] f69_un retF)))) (f69_hw1_0 p1 n3 l4) = f69_w1b0 c66 c72 (fun y0 => retF y0) (fun n3 l4 => NX_w1 (f69_hw1_0 p1 n3 l4)) p1 n3 l4 := by kernel_rfl

noncomputable def f69_w1b0N (k : Nat) (c66 : (PV → R) → R) (c72 : PV → (Bool → R) → R) (ret0 : PV → R) (next_w1_0 : Int → (List PV) → R) (p1 : PV) (n3 : Int) (l4 : List PV) : R :=
  f69_w1b0 c66 c72 ret0 next_w1_0 p1 n3 l4
theorem f69_w1b0_eq (k : Nat) (c66 : (PV → R) → R) (c72 : PV → (Bool → R) → R) (retF : PV → R) (NX_w1 : St → R) (p1 : PV) (n3 : Int) (l4 : List PV) : exec (f69_E k c66 c72) f69_cw1 (purgeK (f69_E k c66 c72) f69_cw1 (loopK NX_w1 (kont (f69_E k c66 c72) f69_code [1, 1, 0, 1, 0] (endK (f69_E k c66 c72) Try.f69 [] f69_un retF)))) (f69_hw1_0 p1 n3 l4) = f69_w1b0N k c66 c72 (fun y0 => retF y0) (fun n3 l4 => NX_w1 (f69_hw1_0 p1 n3 l4)) p1 n3 l4 :=
  (f69_w1b0_mem k c66 c72 retF NX_w1 p1 n3 l4)

noncomputable def f69_w1B (k : Nat) (c66 : (PV → R) → R) (c72 : PV → (Bool → R) → R) (ret0 : PV → R) (p1 : PV) (nx : Int × (List PV) → R) : Int × (List PV) → R := (fun s => f69_w1b0N k c66 c72 ret0 (fun n3 l4 => nx (n3, l4)) p1 s.1 s.2)
noncomputable def f69_w1N (k : Nat) (c66 : (PV → R) → R) (c72 : PV → (Bool → R) → R) (ret0 : PV → R) (p1 : PV) (n3 : Int) (l4 : List PV) : R := loopR (f69_w1B k c66 c72 ret0 p1) k (n3, l4)
theorem f69_w1_eq (k : Nat) (c66 : (PV → R) → R) (c72 : PV → (Bool → R) → R) (retF : PV → R) (p1 : PV) (n3 : Int) (l4 : List PV) : f69_w1A k c66 c72 retF p1 n3 l4 = f69_w1N k c66 c72 (fun y0 => retF y0) p1 n3 l4 :=
  Eq.mp (by kernel_rfl) (loop_sim (E := (f69_E k c66 c72)) (c := f69_cw1) (K := (kont (f69_E k c66 c72) f69_code [1, 1, 0, 1, 0] (endK (f69_E k c66 c72) Try.f69 [] f69_un retF))) (S := Int × (List PV)) (fun s => f69_hw1_0 p1 s.1 s.2) (f69_w1B k c66 c72 (fun y0 => retF y0) p1) (fun NX s => by
    exact Eq.mp (by kernel_rfl) (f69_w1b0_eq k c66 c72 retF NX p1 s.1 s.2)) k (n3, l4))

noncomputable def f69_e (c66 : (PV → R) → R) (c72 : PV → (Bool → R) → R) (ret0 : PV → R) (w1 : PV → Int → (List PV) → R) : R :=
  c66 fun p1 =>
  w1 p1 0 []

theorem f69_e_mem (k : Nat) (c66 : (PV → R) → R) (c72 : PV → (Bool → R) → R) (retF : PV → R) : exec (f69_E k c66 c72) f69_code (endK (f69_E k c66 c72) Try.f69 [] f69_un retF) ⟨[.fn 72 [], .undef, .undef, .undef, .undef, .undef, .undef, .undef, .undef, .undef, .undef, .undef, .undef, .undef, .undef, .undef, .undef, .undef, .undef, .undef, .undef, .undef, .undef], []⟩ = f69_e c66 c72 (fun y0 => retF y0) (fun p1 n3 l4 => f69_w1A k c66 c72 retF p1 n3 l4) := by kernel_rfl

noncomputable def f69_N (k : Nat) (c66 : (PV → R) → R) (c72 : PV → (Bool → R) → R) (ret0 : PV → R) : R :=
  f69_e c66 c72 ret0 (fun p1 n3 l4 => f69_w1N k c66 c72 ret0 p1 n3 l4)
theorem f69_eq (k : Nat) (c66 : (PV → R) → R) (c72 : PV → (Bool → R) → R) (retF : PV → R) : exec (f69_E k c66 c72) f69_code (endK (f69_E k c66 c72) Try.f69 [] f69_un retF) ⟨[.fn 72 [], .undef, .undef, .undef, .undef, .undef, .undef, .undef, .undef, .undef, .undef, .undef, .undef, .undef, .undef, .undef, .undef, .undef, .undef, .undef, .undef, .undef, .undef], []⟩ = f69_N k c66 c72 (fun y0 => retF y0) :=
  (f69_e_mem k c66 c72 retF).trans (by rw [show (fun p1 n3 l4 => f69_w1A k c66 c72 retF p1 n3 l4) = (fun p1 n3 l4 => f69_w1N k c66 c72 (fun y0 => retF y0) p1 n3 l4) from funext fun p1 => funext fun n3 => funext fun l4 => f69_w1_eq k c66 c72 retF p1 n3 l4]; rfl)

noncomputable def G69 : Nat → (PV → R) → R
  | 0, _ => none
  | k + 1, ret0 => f69_N k (G66 k) (G72 k) ret0 
theorem S69 : ∀ k, Snd Try.prog 69 f69_I f69_O (fun x ret => G69 k (fun y0 => ret y0))
  | 0 => snd_none
  | k + 1 => snd_step (E := f69_E k (G66 k) (G72 k)) rfl laidOut noNums (orc_ok (S66 k).o f66_D_ok (orc_ok (S72 k).o f72_D_ok orc0_ok)) (f := 69) (fn := Try.f69) (code := f69_code) Try.func69 (by kernel_rfl) (drawsOk_of laidOut (orc_ok (S66 k).o f66_D_ok (orc_ok (S72 k).o f72_D_ok orc0_ok)) mixed (by kernel_rfl)) f69_un f69_un_ok [] (fun _ => rfl)
      (fun x ret => f69_eq k (G66 k) (G72 k) ret)

/- catchpole/class.Names -/
noncomputable def f45_I : Unit → List SV × Obs := fun x => ([], [])
noncomputable def f45_D : List SV → Obs → Option (Unit)
  | [], [] => some ()
  | _, _ => none
theorem f45_D_ok (args : List SV) (B : Obs) (x : Unit) (h : f45_D args B = some x) : f45_I x = (args, B) := by
  unfold f45_D at h
  split at h
  · injection h with h; subst h; rfl
  · cases h
noncomputable def f45_O : PV → Out := (fun y => ([.val 64 y], []))
noncomputable def f45_un : Out → Option (PV)
  | ([.val 64 y0], []) => some y0
  | _ => none
theorem f45_un_ok (o : Out) (y : PV) (h : f45_un o = some y) : o = f45_O y := by
  unfold f45_un at h
  split at h
  · injection h with h; subst h; rfl
  · cases h
noncomputable def f45_msk : Nat → Option (List Nat) := fun key =>  none
noncomputable def f45_C (c69 : (PV → R) → R) : Oracle := orc 69 f69_D f69_O (fun x ret => c69 (fun y0 => ret y0)) <| orc0
noncomputable def f45_E (k : Nat) (c69 : (PV → R) → R) : Env := { P := Try.prog, nilOwn := fun d => false, fldOwn := fun d i => false, ownPar := ownPars, ownRet := false, mask := f45_msk, fuel := k, C := f45_C c69 }
noncomputable def f45_code : Code := Try.f45.body.getD .skip
noncomputable def f45_e (c69 : (PV → R) → R) (ret0 : PV → R) : R :=
  c69 fun p1 =>
  ret0 p1

theorem f45_e_mem (k : Nat) (c69 : (PV → R) → R) (retF : PV → R) : exec (f45_E k c69) f45_code (endK (f45_E k c69) Try.f45 [] f45_un retF) ⟨[.undef, .undef], []⟩ = f45_e c69 (fun y0 => retF y0) := by kernel_rfl

noncomputable def f45_N (k : Nat) (c69 : (PV → R) → R) (ret0 : PV → R) : R :=
  f45_e c69 ret0
theorem f45_eq (k : Nat) (c69 : (PV → R) → R) (retF : PV → R) : exec (f45_E k c69) f45_code (endK (f45_E k c69) Try.f45 [] f45_un retF) ⟨[.undef, .undef], []⟩ = f45_N k c69 (fun y0 => retF y0) :=
  (f45_e_mem k c69 retF)

noncomputable def G45 : Nat → (PV → R) → R
  | 0, _ => none
  | k + 1, ret0 => f45_N k (G69 k) ret0 
theorem S45 : ∀ k, Snd Try.prog 45 f45_I f45_O (fun x ret => G45 k (fun y0 => ret y0))
  | 0 => snd_none
  | k + 1 => snd_step (E := f45_E k (G69 k)) rfl laidOut noNums (orc_ok (S69 k).o f69_D_ok orc0_ok) (f := 45) (fn := Try.f45) (code := f45_code) Try.func45 (by kernel_rfl) (drawsOk_of laidOut (orc_ok (S69 k).o f69_D_ok orc0_ok) mixed (by kernel_rfl)) f45_un f45_un_ok [] (fun _ => rfl)
      (fun x ret => f45_eq k (G69 k) ret)

/- catchpole/catchpolelaw2.awake -/
noncomputable def f37_I : Unit → List SV × Obs := fun x => ([], [])
noncomputable def f37_D : List SV → Obs → Option (Unit)
  | [], [] => some ()
  | _, _ => none
theorem f37_D_ok (args : List SV) (B : Obs) (x : Unit) (h : f37_D args B = some x) : f37_I x = (args, B) := by
  unfold f37_D at h
  split at h
  · injection h with h; subst h; rfl
  · cases h
noncomputable def f37_O : Bool → Out := (fun y => ([.bool y], []))
noncomputable def f37_un : Out → Option (Bool)
  | ([.bool y0], []) => some y0
  | _ => none
theorem f37_un_ok (o : Out) (y : Bool) (h : f37_un o = some y) : o = f37_O y := by
  unfold f37_un at h
  split at h
  · injection h with h; subst h; rfl
  · cases h
noncomputable def f37_msk : Nat → Option (List Nat) := fun key =>  none
noncomputable def f37_C (c16 : PV → (Int → R) → R) (c23 : PV → Int → (Bool → R) → R) (c38 : (List Int) → (PV → Bool → R) → R) (c45 : (PV → R) → R) : Oracle := orc 16 f16_D f16_O (fun x ret => c16 x (fun y0 => ret y0)) <| orc 23 f23_D f23_O (fun x ret => c23 x.1 x.2 (fun y0 => ret y0)) <| orc 38 f38_D f38_O (fun x ret => c38 x (fun y0 y1 => ret (y0, y1))) <| orc 45 f45_D f45_O (fun x ret => c45 (fun y0 => ret y0)) <| orc0
noncomputable def f37_E (k : Nat) (c16 : PV → (Int → R) → R) (c23 : PV → Int → (Bool → R) → R) (c38 : (List Int) → (PV → Bool → R) → R) (c45 : (PV → R) → R) : Env := { P := Try.prog, nilOwn := fun d => false, fldOwn := fun d i => false, ownPar := ownPars, ownRet := false, mask := f37_msk, fuel := k, C := f37_C c16 c23 c38 c45 }
noncomputable def f37_code : Code := Try.f37.body.getD .skip
noncomputable def f37_e (c16 : PV → (Int → R) → R) (c23 : PV → Int → (Bool → R) → R) (c38 : (List Int) → (PV → Bool → R) → R) (c45 : (PV → R) → R) (ret0 : Bool → R) : R :=
  c38 [100, 105, 103, 105, 116] fun p1 b2 =>
  bif (b2 == true) then
    c16 p1 fun n3 =>
    bif ((decide (n3 = (10 : Int))) == true) then
      c23 p1 55 fun b4 =>
      bif (b4 == true) then
        c45 fun p5 =>
        ret0 (decide ((List.length (PV.els p5) : Int) = (12 : Int)))
      else ret0 false
    else ret0 false
  else ret0 false

theorem f37_e_mem (k : Nat) (c16 : PV → (Int → R) → R) (c23 : PV → Int → (Bool → R) → R) (c38 : (List Int) → (PV → Bool → R) → R) (c45 : (PV → R) → R) (retF : Bool → R) : exec (f37_E k c16 c23 c38 c45) f37_code (endK (f37_E k c16 c23 c38 c45) Try.f37 [] f37_un retF) ⟨[.undef, .undef, .undef, .undef, .undef, .undef, .undef, .undef, .undef, .undef, .undef, .undef, .undef, .undef, .undef, .undef, .undef, .undef, .undef, .undef, .undef, .undef], []⟩ = f37_e c16 c23 c38 c45 (fun y0 => retF y0) := by kernel_rfl

noncomputable def f37_N (k : Nat) (c16 : PV → (Int → R) → R) (c23 : PV → Int → (Bool → R) → R) (c38 : (List Int) → (PV → Bool → R) → R) (c45 : (PV → R) → R) (ret0 : Bool → R) : R :=
  f37_e c16 c23 c38 c45 ret0
theorem f37_eq (k : Nat) (c16 : PV → (Int → R) → R) (c23 : PV → Int → (Bool → R) → R) (c38 : (List Int) → (PV → Bool → R) → R) (c45 : (PV → R) → R) (retF : Bool → R) : exec (f37_E k c16 c23 c38 c45) f37_code (endK (f37_E k c16 c23 c38 c45) Try.f37 [] f37_un retF) ⟨[.undef, .undef, .undef, .undef, .undef, .undef, .undef, .undef, .undef, .undef, .undef, .undef, .undef, .undef, .undef, .undef, .undef, .undef, .undef, .undef, .undef, .undef], []⟩ = f37_N k c16 c23 c38 c45 (fun y0 => retF y0) :=
  (f37_e_mem k c16 c23 c38 c45 retF)

noncomputable def G37 : Nat → (Bool → R) → R
  | 0, _ => none
  | k + 1, ret0 => f37_N k (G16 k) (G23 k) (G38 k) (G45 k) ret0 
theorem S37 : ∀ k, Snd Try.prog 37 f37_I f37_O (fun x ret => G37 k (fun y0 => ret y0))
  | 0 => snd_none
  | k + 1 => snd_step (E := f37_E k (G16 k) (G23 k) (G38 k) (G45 k)) rfl laidOut noNums (orc_ok (S16 k).o f16_D_ok (orc_ok (S23 k).o f23_D_ok (orc_ok (S38 k).o f38_D_ok (orc_ok (S45 k).o f45_D_ok orc0_ok)))) (f := 37) (fn := Try.f37) (code := f37_code) Try.func37 (by kernel_rfl) (drawsOk_of laidOut (orc_ok (S16 k).o f16_D_ok (orc_ok (S23 k).o f23_D_ok (orc_ok (S38 k).o f38_D_ok (orc_ok (S45 k).o f45_D_ok orc0_ok)))) mixed (by kernel_rfl)) f37_un f37_un_ok [] (fun _ => rfl)
      (fun x ret => f37_eq k (G16 k) (G23 k) (G38 k) (G45 k) ret)

end Go.Proofs.Ytifnlmfhbepjcaa
