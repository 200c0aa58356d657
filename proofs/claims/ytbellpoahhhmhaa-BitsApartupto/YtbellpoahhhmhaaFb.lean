/- Functions of the program as Lean functions, each tied to the program by the kernel: catchpolelaw11.BitsApart -/
import Derived.Test.YtbellpoahhhmhaaF
set_option linter.unusedVariables false
set_option maxRecDepth 100000
namespace Go.Proofs.Ytbellpoahhhmhaa
open Go Go.X
/- catchpole/catchpolelaw11.BitsApart -/
noncomputable def f12_I : PV × PV × PV → List SV × Obs := fun x => ([.val 27 x.1, .val 30 x.2.1, .val 30 x.2.2], [])
noncomputable def f12_D : List SV → Obs → Option (PV × PV × PV)
  | [.val 27 p1, .val 30 p2, .val 30 p3], [] => some (p1, p2, p3)
  | _, _ => none
theorem f12_D_ok (args : List SV) (B : Obs) (x : PV × PV × PV) (h : f12_D args B = some x) : f12_I x = (args, B) := by
  unfold f12_D at h
  split at h
  · injection h with h; subst h; rfl
  · cases h
noncomputable def f12_O : Bool → Out := (fun y => ([.bool y], []))
noncomputable def f12_un : Out → Option (Bool)
  | ([.bool y0], []) => some y0
  | _ => none
theorem f12_un_ok (o : Out) (y : Bool) (h : f12_un o = some y) : o = f12_O y := by
  unfold f12_un at h
  split at h
  · injection h with h; subst h; rfl
  · cases h
noncomputable def f12_msk : Nat → Option (List Nat) := fun key =>  none
noncomputable def f12_C (c26 : PV → PV → (Bool → R) → R) (c27 : PV → (PV → R) → R) (c31 : PV → PV → (Bool → R) → R) (c40 : (Bool → R) → R) (c41 : PV → Int → (Bool → R) → R) (c42 : PV → Int → (Bool → R) → R) (c46 : PV → ((List Int) → R) → R) : Oracle := orc 26 f26_D f26_O (fun x ret => c26 x.1 x.2 (fun y0 => ret y0)) <| orc 27 f27_D f27_O (fun x ret => c27 x (fun y0 => ret y0)) <| orc 31 f31_D f31_O (fun x ret => c31 x.1 x.2 (fun y0 => ret y0)) <| orc 40 f40_D f40_O (fun x ret => c40 (fun y0 => ret y0)) <| orc 41 f41_D f41_O (fun x ret => c41 x.1 x.2 (fun y0 => ret y0)) <| orc 42 f42_D f42_O (fun x ret => c42 x.1 x.2 (fun y0 => ret y0)) <| orc 46 f46_D f46_O (fun x ret => c46 x (fun y0 => ret y0)) <| orc0
noncomputable def f12_E (k : Nat) (c26 : PV → PV → (Bool → R) → R) (c27 : PV → (PV → R) → R) (c31 : PV → PV → (Bool → R) → R) (c40 : (Bool → R) → R) (c41 : PV → Int → (Bool → R) → R) (c42 : PV → Int → (Bool → R) → R) (c46 : PV → ((List Int) → R) → R) : Env := { P := Try.prog, nilOwn := fun d => false, fldOwn := fun d i => false, ownPar := ownPars, ownRet := false, mask := f12_msk, fuel := k, C := f12_C c26 c27 c31 c40 c41 c42 c46 }
noncomputable def f12_code : Code := Try.f12.body.getD .skip
noncomputable def f12_e (c26 : PV → PV → (Bool → R) → R) (c27 : PV → (PV → R) → R) (c31 : PV → PV → (Bool → R) → R) (c40 : (Bool → R) → R) (c41 : PV → Int → (Bool → R) → R) (c42 : PV → Int → (Bool → R) → R) (c46 : PV → ((List Int) → R) → R) (ret0 : Bool → R) (p1 : PV) (p2 : PV) (p3 : PV) : R :=
  c40 fun b4 =>
  bif (!b4) then
    ret0 false
  else c41 p1 100 fun b5 =>
  bif (b5 == false) then
    c42 p2 40 fun b6 =>
    bif (b6 == false) then
      c42 p3 40 fun b7 =>
      bif (b7 == false) then
        c31 p1 p2 fun b8 =>
        bif ((!b8) == false) then
          c31 p1 p3 fun b9 =>
          bif (!b9) then
            ret0 true
          else c27 p2 fun p10 =>
          c27 p3 fun p11 =>
          bif ((decide ((List.length (PV.els p11) : Int) < (List.length (PV.els p10) : Int))) == false) then
            bif (decide ((0 : Int) ≤ (0 : Int)) && decide ((0 : Int) ≤ (List.length (PV.els p10) : Int)) && decide ((List.length (PV.els p10) : Int) ≤ (List.length (PV.els p11) : Int))) then
              let s12 : List Int := (List.map PV.num (List.drop ((0 : Int)).toNat (List.take ((List.length (PV.els p10) : Int)).toNat (PV.els p11))))
              bif (!(decide ((s12 : List Int) = (List.map PV.num (PV.els p10))))) then
                ret0 true
              else c46 p2 fun s13 =>
              c46 p3 fun s14 =>
              bif ((decide ((List.length s13 : Int) ≤ (List.length s14 : Int))) == true) then
                bif (decide ((0 : Int) ≤ (0 : Int)) && decide ((0 : Int) ≤ (List.length s13 : Int)) && decide ((List.length s13 : Int) ≤ (List.length s14 : Int))) then
                  let b15 : Bool := (decide (((List.drop ((0 : Int)).toNat (List.take ((List.length s13 : Int)).toNat s14)) : List Int) = s13))
                  bif (b15 == false) then
                    bif ((decide ((List.length s14 : Int) ≤ (List.length s13 : Int))) == true) then
                      bif (decide ((0 : Int) ≤ (0 : Int)) && decide ((0 : Int) ≤ (List.length s14 : Int)) && decide ((List.length s14 : Int) ≤ (List.length s13 : Int))) then
                        let b16 : Bool := (decide (((List.drop ((0 : Int)).toNat (List.take ((List.length s14 : Int)).toNat s13)) : List Int) = s14))
                        c26 p2 p3 fun b17 =>
                        ret0 (b16 == b17)
                      else none
                    else c26 p2 p3 fun b18 =>
                    ret0 (false == b18)
                  else c26 p2 p3 fun b19 =>
                  ret0 (true == b19)
                else none
              else bif ((decide ((List.length s14 : Int) ≤ (List.length s13 : Int))) == true) then
                bif (decide ((0 : Int) ≤ (0 : Int)) && decide ((0 : Int) ≤ (List.length s14 : Int)) && decide ((List.length s14 : Int) ≤ (List.length s13 : Int))) then
                  let b20 : Bool := (decide (((List.drop ((0 : Int)).toNat (List.take ((List.length s14 : Int)).toNat s13)) : List Int) = s14))
                  c26 p2 p3 fun b21 =>
                  ret0 (b20 == b21)
                else none
              else c26 p2 p3 fun b22 =>
              ret0 (false == b22)
            else none
          else ret0 true
        else ret0 true
      else ret0 true
    else ret0 true
  else ret0 true

theorem f12_e_mem (k : Nat) (c26 : PV → PV → (Bool → R) → R) (c27 : PV → (PV → R) → R) (c31 : PV → PV → (Bool → R) → R) (c40 : (Bool → R) → R) (c41 : PV → Int → (Bool → R) → R) (c42 : PV → Int → (Bool → R) → R) (c46 : PV → ((List Int) → R) → R) (retF : Bool → R) (p1 : PV) (p2 : PV) (p3 : PV) : exec (f12_E k c26 c27 c31 c40 c41 c42 c46) f12_code (endK (f12_E k c26 c27 c31 c40 c41 c42 c46) Try.f12 [] f12_un retF) ⟨[.val 27 p1, .val 30 p2, .val 30 p3, .undef, .undef, .undef, .undef, .undef, .undef, .undef, .undef, .undef, .undef, .undef, .undef, .undef, .undef, .undef, .undef, .undef, .undef, .undef, .undef, .undef, .undef, .undef, .undef, .undef, .undef, .undef, .undef, .undef, .undef, .undef, .undef, .undef, .undef, .undef, .undef, .undef, .undef, .undef, .undef, .undef, .undef, .undef, .undef, .undef, .undef, .undef, .undef, .undef, .undef, .undef, .undef, .undef, .undef, .undef, .undef, .undef, .undef, .undef, .undef, .undef, .undef, .undef, .undef, .undef, .undef, .undef, .undef, .undef, .undef, .undef, .undef, .undef, .undef, .undef, .undef, .undef, .undef, .undef, .undef, .undef, .undef, .undef, .undef, .undef, .undef, .undef, .undef, .undef], []⟩ = f12_e c26 c27 c31 c40 c41 c42 c46 (fun y0 => retF y0) p1 p2 p3 := by kernel_rfl

noncomputable def f12_N (k : Nat) (c26 : PV → PV → (Bool → R) → R) (c27 : PV → (PV → R) → R) (c31 : PV → PV → (Bool → R) → R) (c40 : (Bool → R) → R) (c41 : PV → Int → (Bool → R) → R) (c42 : PV → Int → (Bool → R) → R) (c46 : PV → ((List Int) → R) → R) (ret0 : Bool → R) (p1 : PV) (p2 : PV) (p3 : PV) : R :=
  f12_e c26 c27 c31 c40 c41 c42 c46 ret0 p1 p2 p3
theorem f12_eq (k : Nat) (c26 : PV → PV → (Bool → R) → R) (c27 : PV → (PV → R) → R) (c31 : PV → PV → (Bool → R) → R) (c40 : (Bool → R) → R) (c41 : PV → Int → (Bool → R) → R) (c42 : PV → Int → (Bool → R) → R) (c46 : PV → ((List Int) → R) → R) (retF : Bool → R) (p1 : PV) (p2 : PV) (p3 : PV) : exec (f12_E k c26 c27 c31 c40 c41 c42 c46) f12_code (endK (f12_E k c26 c27 c31 c40 c41 c42 c46) Try.f12 [] f12_un retF) ⟨[.val 27 p1, .val 30 p2, .val 30 p3, .undef, .undef, .undef, .undef, .undef, .undef, .undef, .undef, .undef, .undef, .undef, .undef, .undef, .undef, .undef, .undef, .undef, .undef, .undef, .undef, .undef, .undef, .undef, .undef, .undef, .undef, .undef, .undef, .undef, .undef, .undef, .undef, .undef, .undef, .undef, .undef, .undef, .undef, .undef, .undef, .undef, .undef, .undef, .undef, .undef, .undef, .undef, .undef, .undef, .undef, .undef, .undef, .undef, .undef, .undef, .undef, .undef, .undef, .undef, .undef, .undef, .undef, .undef, .undef, .undef, .undef, .undef, .undef, .undef, .undef, .undef, .undef, .undef, .undef, .undef, .undef, .undef, .undef, .undef, .undef, .undef, .undef, .undef, .undef, .undef, .undef, .undef, .undef, .undef], []⟩ = f12_N k c26 c27 c31 c40 c41 c42 c46 (fun y0 => retF y0) p1 p2 p3 :=
  (f12_e_mem k c26 c27 c31 c40 c41 c42 c46 retF p1 p2 p3)

noncomputable def G12 : Nat → PV → PV → PV → (Bool → R) → R
  | 0, _, _, _, _ => none
  | k + 1, p1, p2, p3, ret0 => f12_N k (G26 k) (G27 k) (G31 k) (G40 k) (G41 k) (G42 k) (G46 k) ret0 p1 p2 p3
theorem S12 : ∀ k, Snd Try.prog 12 f12_I f12_O (fun x ret => G12 k x.1 x.2.1 x.2.2 (fun y0 => ret y0))
  | 0 => snd_none
  | k + 1 => snd_step (E := f12_E k (G26 k) (G27 k) (G31 k) (G40 k) (G41 k) (G42 k) (G46 k)) rfl laidOut noNums (orc_ok (S26 k).o f26_D_ok (orc_ok (S27 k).o f27_D_ok (orc_ok (S31 k).o f31_D_ok (orc_ok (S40 k).o f40_D_ok (orc_ok (S41 k).o f41_D_ok (orc_ok (S42 k).o f42_D_ok (orc_ok (S46 k).o f46_D_ok orc0_ok))))))) (f := 12) (fn := Try.f12) (code := f12_code) Try.func12 (by kernel_rfl) (drawsOk_of laidOut (orc_ok (S26 k).o f26_D_ok (orc_ok (S27 k).o f27_D_ok (orc_ok (S31 k).o f31_D_ok (orc_ok (S40 k).o f40_D_ok (orc_ok (S41 k).o f41_D_ok (orc_ok (S42 k).o f42_D_ok (orc_ok (S46 k).o f46_D_ok orc0_ok))))))) mixed (by kernel_rfl)) f12_un f12_un_ok [] (fun _ => rfl)
      (fun x ret => f12_eq k (G26 k) (G27 k) (G31 k) (G40 k) (G41 k) (G42 k) (G46 k) ret x.1 x.2.1 x.2.2)

end Go.Proofs.Ytbellpoahhhmhaa
