/- Functions of the program as Lean functions, each tied to the program by the kernel: catchpolelaw21.AheadKnown -/
import Derived.Test.YthdonefmfgnilaaFK
set_option linter.unusedVariables false
set_option maxRecDepth 100000
namespace Go.Proofs.Ythdonefmfgnilaa
open Go Go.X
/- (*catchpole/ahead.Ahead).Past -/
noncomputable def f41_I : PV × PV × Int × (List HE) → List SV × Obs := fun x => ([.hval 51 x.1, .val 44 x.2.1, .int .i64 x.2.2.1], [(1000000000000, .hp x.2.2.2)])
noncomputable def f41_D : List SV → Obs → Option (PV × PV × Int × (List HE))
  | [.hval 51 p1, .val 44 p2, .int .i64 n3], [(1000000000000, .hp h4)] => some (p1, p2, n3, h4)
  | _, _ => none
theorem f41_D_ok (args : List SV) (B : Obs) (x : PV × PV × Int × (List HE)) (h : f41_D args B = some x) : f41_I x = (args, B) := by
  unfold f41_D at h
  split at h
  · injection h with h; subst h; rfl
  · cases h
noncomputable def f41_O : Bool × (List HE) → Out := (fun y => ([.bool y.1], [(1000000000000, .hp y.2)]))
noncomputable def f41_un : Out → Option (Bool × (List HE))
  | ([.bool y0], [(1000000000000, .hp y1)]) => some (y0, y1)
  | _ => none
theorem f41_un_ok (o : Out) (y : Bool × (List HE)) (h : f41_un o = some y) : o = f41_O y := by
  unfold f41_un at h
  split at h
  · injection h with h; subst h; rfl
  · cases h
noncomputable def f41_msk : Nat → Option (List Nat) := fun key =>  none
noncomputable def f41_C (c71 : PV → PV → Int → (List HE) → (Int → Bool → (List HE) → R) → R) : Oracle := orc 71 f71_D f71_O (fun x ret => c71 x.1 x.2.1 x.2.2.1 x.2.2.2 (fun y0 y1 y2 => ret (y0, y1, y2))) <| orc0
noncomputable def f41_E (k : Nat) (c71 : PV → PV → Int → (List HE) → (Int → Bool → (List HE) → R) → R) : Env := { P := Try.prog, nilOwn := fun d => false, fldOwn := fun d i => false, ownPar := ownPars, ownRet := false, hpD := fun d => false, hpF := hpFs, hpNew := false, mask := f41_msk, fuel := k, C := f41_C c71 }
noncomputable def f41_code : Code := Try.f41.body.getD .skip
noncomputable def f41_e (c71 : PV → PV → Int → (List HE) → (Int → Bool → (List HE) → R) → R) (ret0 : Bool → (List HE) → R) (p1 : PV) (p2 : PV) (n3 : Int) (h4 : List HE) : R :=
  c71 p1 p2 n3 h4 fun n5 b6 h7 =>
  bif (b6 == true) then
    bif (PV.isRp p1) then
      bif (true && true && (hokV h7 82 (PV.rI p1))) then
        bif (true && decide ((0 : Int) ≤ n5) && decide (n5 < ((PV.rN (PV.fld (hvarOf h7 (PV.rI p1)) 2)) : Int))) then
          bif (true && true && (hokR h7 87 (PV.rI (PV.fld (hvarOf h7 (PV.rI p1)) 2)) n5)) then
            bif (true && decide ((0 : Int) ≤ n3) && decide (n3 < ((PV.rN (List.getD (hrowOf h7 (PV.rI (PV.fld (hvarOf h7 (PV.rI p1)) 2))) (n5).toNat PV.nil)) : Int))) then
              bif (true && true && (hokR h7 4 (PV.rI (List.getD (hrowOf h7 (PV.rI (PV.fld (hvarOf h7 (PV.rI p1)) 2))) (n5).toNat PV.nil)) n3)) then
                let b8 : Bool := (PV.tt (List.getD (hrowOf h7 (PV.rI (List.getD (hrowOf h7 (PV.rI (PV.fld (hvarOf h7 (PV.rI p1)) 2))) (n5).toNat PV.nil))) (n3).toNat PV.nil))
                ret0 b8 h7
              else none
            else none
          else none
        else none
      else none
    else none
  else ret0 false h7

theorem f41_e_mem (k : Nat) (c71 : PV → PV → Int → (List HE) → (Int → Bool → (List HE) → R) → R) (retF : Bool × (List HE) → R) (p1 : PV) (p2 : PV) (n3 : Int) (h4 : List HE) : exec (f41_E k c71) f41_code (endK (f41_E k c71) Try.f41 [1000000000000] f41_un retF) ⟨[.hval 51 p1, .val 44 p2, .int .i64 n3, .undef, .undef, .undef, .undef, .undef, .undef, .undef, .undef, .undef, .undef, .undef, .undef, .undef, .undef, .undef, .undef, .undef, .undef, .undef, .undef, .undef, .undef, .undef, .undef, .undef, .undef], [(1000000000000, .hp h4)]⟩ = f41_e c71 (fun y0 y1 => retF (y0, y1)) p1 p2 n3 h4 := by kernel_rfl

noncomputable def f41_N (k : Nat) (c71 : PV → PV → Int → (List HE) → (Int → Bool → (List HE) → R) → R) (ret0 : Bool → (List HE) → R) (p1 : PV) (p2 : PV) (n3 : Int) (h4 : List HE) : R :=
  f41_e c71 ret0 p1 p2 n3 h4
theorem f41_eq (k : Nat) (c71 : PV → PV → Int → (List HE) → (Int → Bool → (List HE) → R) → R) (retF : Bool × (List HE) → R) (p1 : PV) (p2 : PV) (n3 : Int) (h4 : List HE) : exec (f41_E k c71) f41_code (endK (f41_E k c71) Try.f41 [1000000000000] f41_un retF) ⟨[.hval 51 p1, .val 44 p2, .int .i64 n3, .undef, .undef, .undef, .undef, .undef, .undef, .undef, .undef, .undef, .undef, .undef, .undef, .undef, .undef, .undef, .undef, .undef, .undef, .undef, .undef, .undef, .undef, .undef, .undef, .undef, .undef], [(1000000000000, .hp h4)]⟩ = f41_N k c71 (fun y0 y1 => retF (y0, y1)) p1 p2 n3 h4 :=
  (f41_e_mem k c71 retF p1 p2 n3 h4)

noncomputable def G41 : Nat → PV → PV → Int → (List HE) → (Bool → (List HE) → R) → R
  | 0, _, _, _, _, _ => none
  | k + 1, p1, p2, n3, h4, ret0 => f41_N k (G71 k) ret0 p1 p2 n3 h4
theorem S41 : ∀ k, Snd Try.prog 41 f41_I f41_O (fun x ret => G41 k x.1 x.2.1 x.2.2.1 x.2.2.2 (fun y0 y1 => ret (y0, y1)))
  | 0 => snd_none
  | k + 1 => snd_step (E := f41_E k (G71 k)) rfl laidOut noNums (orc_ok (S71 k).o f71_D_ok orc0_ok) (f := 41) (fn := Try.f41) (code := f41_code) Try.func41 (by kernel_rfl) (drawsOk_of laidOut (orc_ok (S71 k).o f71_D_ok orc0_ok) mixed (by kernel_rfl)) f41_un f41_un_ok [1000000000000] (fun _ => rfl)
      (fun x ret => f41_eq k (G71 k) ret x.1 x.2.1 x.2.2.1 x.2.2.2)

/- catchpole/catchpolelaw21.AheadKnown -/
noncomputable def f8_I : Unit → List SV × Obs := fun x => ([], [])
noncomputable def f8_D : List SV → Obs → Option (Unit)
  | [], [] => some ()
  | _, _ => none
theorem f8_D_ok (args : List SV) (B : Obs) (x : Unit) (h : f8_D args B = some x) : f8_I x = (args, B) := by
  unfold f8_D at h
  split at h
  · injection h with h; subst h; rfl
  · cases h
noncomputable def f8_O : Bool → Out := (fun y => ([.bool y], []))
noncomputable def f8_un : Out → Option (Bool)
  | ([.bool y0], []) => some y0
  | _ => none
theorem f8_un_ok (o : Out) (y : Bool) (h : f8_un o = some y) : o = f8_O y := by
  unfold f8_un at h
  split at h
  · injection h with h; subst h; rfl
  · cases h
noncomputable def f8_msk : Nat → Option (List Nat) := fun key =>  none
noncomputable def f8_C (c35 : (Bool → R) → R) (c36 : PV → PV → (PV → R) → R) (c37 : PV → (PV → R) → R) (c38 : PV → (PV → R) → R) (c39 : PV → PV → Bool → (List HE) → (PV → Int → (List HE) → R) → R) (c40 : PV → (List HE) → (Bool → (List HE) → R) → R) (c41 : PV → PV → Int → (List HE) → (Bool → (List HE) → R) → R) (c42 : PV → PV → Int → (List HE) → (Bool → (List HE) → R) → R) : Oracle := orc 35 f35_D f35_O (fun x ret => c35 (fun y0 => ret y0)) <| orc 36 f36_D f36_O (fun x ret => c36 x.1 x.2 (fun y0 => ret y0)) <| orc 37 f37_D f37_O (fun x ret => c37 x (fun y0 => ret y0)) <| orc 38 f38_D f38_O (fun x ret => c38 x (fun y0 => ret y0)) <| orc 39 f39_D f39_O (fun x ret => c39 x.1 x.2.1 x.2.2.1 x.2.2.2 (fun y0 y1 y2 => ret (y0, y1, y2))) <| orc 40 f40_D f40_O (fun x ret => c40 x.1 x.2 (fun y0 y1 => ret (y0, y1))) <| orc 41 f41_D f41_O (fun x ret => c41 x.1 x.2.1 x.2.2.1 x.2.2.2 (fun y0 y1 => ret (y0, y1))) <| orc 42 f42_D f42_O (fun x ret => c42 x.1 x.2.1 x.2.2.1 x.2.2.2 (fun y0 y1 => ret (y0, y1))) <| orc0
noncomputable def f8_E (k : Nat) (c35 : (Bool → R) → R) (c36 : PV → PV → (PV → R) → R) (c37 : PV → (PV → R) → R) (c38 : PV → (PV → R) → R) (c39 : PV → PV → Bool → (List HE) → (PV → Int → (List HE) → R) → R) (c40 : PV → (List HE) → (Bool → (List HE) → R) → R) (c41 : PV → PV → Int → (List HE) → (Bool → (List HE) → R) → R) (c42 : PV → PV → Int → (List HE) → (Bool → (List HE) → R) → R) : Env := { P := Try.prog, nilOwn := fun d => d == 20 || d == 27, fldOwn := fun d i => false, ownPar := ownPars, ownRet := false, hpD := fun d => false, hpF := hpFs, hpNew := true, mask := f8_msk, fuel := k, C := f8_C c35 c36 c37 c38 c39 c40 c41 c42 }
noncomputable def f8_code : Code := Try.f8.body.getD .skip
noncomputable def G8 (k : Nat) (ret0 : Bool → R) : R := exec (f8_E k (G35 k) (G36 k) (G37 k) (G38 k) (G39 k) (G40 k) (G41 k) (G42 k)) f8_code (endK (f8_E k (G35 k) (G36 k) (G37 k) (G38 k) (G39 k) (G40 k) (G41 k) (G42 k)) Try.f8 [] f8_un ret0) { T := (f8_I ()).1 ++ List.replicate (Try.f8.ntmps - (f8_I ()).1.length) .undef, B := startH (f8_E k (G35 k) (G36 k) (G37 k) (G38 k) (G39 k) (G40 k) (G41 k) (G42 k)) (f8_I ()).2 }
theorem S8 : ∀ k, Snd Try.prog 8 f8_I f8_O (fun x ret => G8 k (fun y0 => ret y0)) := fun k =>
  snd_step (E := f8_E k (G35 k) (G36 k) (G37 k) (G38 k) (G39 k) (G40 k) (G41 k) (G42 k)) rfl laidOut noNums (orc_ok (S35 k).o f35_D_ok (orc_ok (S36 k).o f36_D_ok (orc_ok (S37 k).o f37_D_ok (orc_ok (S38 k).o f38_D_ok (orc_ok (S39 k).o f39_D_ok (orc_ok (S40 k).o f40_D_ok (orc_ok (S41 k).o f41_D_ok (orc_ok (S42 k).o f42_D_ok orc0_ok)))))))) (f := 8) (fn := Try.f8) (code := f8_code) Try.func8 (by kernel_rfl) (drawsOk_of laidOut (orc_ok (S35 k).o f35_D_ok (orc_ok (S36 k).o f36_D_ok (orc_ok (S37 k).o f37_D_ok (orc_ok (S38 k).o f38_D_ok (orc_ok (S39 k).o f39_D_ok (orc_ok (S40 k).o f40_D_ok (orc_ok (S41 k).o f41_D_ok (orc_ok (S42 k).o f42_D_ok orc0_ok)))))))) mixed (by kernel_rfl)) f8_un f8_un_ok [] (fun _ => rfl) (fun x ret => rfl)

end Go.Proofs.Ythdonefmfgnilaa
