/- The law ClassParts comes out true: the function's run over what its calls come to, byte by byte. -/
import Derived.Test.YtifnlmfhbepjcaaCls2
set_option linter.unusedSimpArgs false
set_option linter.unusedVariables false
set_option maxRecDepth 100000
namespace Go.Proofs.Ytifnlmfhbepjcaa
open Go Go.X

theorem SndO.of {P : Program} {f : FuncId} {X Y : Type} {inp : X → List SV × Obs} {out : Y → Out} {c c' : X → (Y → R) → R} (h : SndO P f inp out c) (e : ∀ x, (∀ ret, c' x ret = c x ret) ∨ (∀ ret, c' x ret = none)) : SndO P f inp out c' where
  ok := fun x r hr => by
    rcases e x with e | e
    · exact h.ok x r (by rw [← e]; exact hr)
    · rw [e] at hr; cases hr
  par := fun x K => by
    rcases e x with e | e
    · rw [e, e]; exact h.par x K
    · rw [e, e]; rfl

/-- A set's number. -/
def numOf : PV → Option Nat
  | .agg [.int a, .int b, .int c, .int d] =>
    let n := a.toNat + b.toNat * 18446744073709551616 + c.toNat * 340282366920938463463374607431768211456 + d.toNat * 6277101735386680763835789423207666416102355444464034512896
    bif decide (a = (wd n 0 : Int)) && (decide (b = (wd n 1 : Int)) && (decide (c = (wd n 2 : Int)) && decide (d = (wd n 3 : Int)))) then some n else none
  | _ => none
theorem numOf_eq {p : PV} {n : Nat} (h : numOf p = some n) : p = bs n := by
  unfold numOf at h
  split at h
  · rename_i a b c d
    simp only at h
    generalize a.toNat + b.toNat * 18446744073709551616 + c.toNat * 340282366920938463463374607431768211456 + d.toNat * 6277101735386680763835789423207666416102355444464034512896 = m at h
    cases hc : (decide (a = (wd m 0 : Int)) && (decide (b = (wd m 1 : Int)) && (decide (c = (wd m 2 : Int)) && decide (d = (wd m 3 : Int))))) with
    | false => rw [hc] at h; cases h
    | true =>
      rw [hc] at h
      injection h with h; subst h
      simp only [Bool.and_eq_true, decide_eq_true_eq] at hc
      rw [hc.1, hc.2.1, hc.2.2.1, hc.2.2.2]
      rfl
  · cases h
/-- Has a set a byte? -/
def nHas (x : PV × Int) (ret : Bool → R) : R :=
  match numOf x.1 with
  | some n => bif decide (0 ≤ x.2) && decide (x.2 < 256) then ret (n.testBit x.2.toNat) else none
  | none => none
def nmOf (s : List Int) : Option PV :=
  if s = [97, 108, 110, 117, 109] then some (PV.agg [PV.int 287948901175001088, PV.int 576460743847706622, PV.int 0, PV.int 0])
  else if s = [97, 108, 112, 104, 97] then some (PV.agg [PV.int 0, PV.int 576460743847706622, PV.int 0, PV.int 0])
  else if s = [98, 108, 97, 110, 107] then some (PV.agg [PV.int 4294967808, PV.int 0, PV.int 0, PV.int 0])
  else if s = [99, 110, 116, 114, 108] then some (PV.agg [PV.int 4294967295, PV.int 9223372036854775808, PV.int 0, PV.int 0])
  else if s = [100, 105, 103, 105, 116] then some (PV.agg [PV.int 287948901175001088, PV.int 0, PV.int 0, PV.int 0])
  else if s = [103, 114, 97, 112, 104] then some (PV.agg [PV.int 18446744065119617024, PV.int 9223372036854775807, PV.int 0, PV.int 0])
  else if s = [108, 111, 119, 101, 114] then some (PV.agg [PV.int 0, PV.int 576460743713488896, PV.int 0, PV.int 0])
  else if s = [112, 114, 105, 110, 116] then some (PV.agg [PV.int 18446744069414584320, PV.int 9223372036854775807, PV.int 0, PV.int 0])
  else if s = [112, 117, 110, 99, 116] then some (PV.agg [PV.int 18158795163944615936, PV.int 8646911293007069185, PV.int 0, PV.int 0])
  else if s = [115, 112, 97, 99, 101] then some (PV.agg [PV.int 4294983168, PV.int 0, PV.int 0, PV.int 0])
  else if s = [117, 112, 112, 101, 114] then some (PV.agg [PV.int 0, PV.int 134217726, PV.int 0, PV.int 0])
  else if s = [120, 100, 105, 103, 105, 116] then some (PV.agg [PV.int 287948901175001088, PV.int 541165879422, PV.int 0, PV.int 0])
  else none
theorem nmOf_eq {s : List Int} {p : PV} (h : nmOf s = some p) : ∃ c, clsOf s = some c ∧ p = bs c.2 := by
  unfold nmOf at h
  by_cases h0 : s = [97, 108, 110, 117, 109]
  · rw [if_pos h0] at h
    injection h with h; subst h; subst h0
    exact ⟨([97, 108, 110, 117, 109], kAn), rfl, by kernel_rfl⟩
  rw [if_neg h0] at h
  by_cases h1 : s = [97, 108, 112, 104, 97]
  · rw [if_pos h1] at h
    injection h with h; subst h; subst h1
    exact ⟨([97, 108, 112, 104, 97], kAl), rfl, by kernel_rfl⟩
  rw [if_neg h1] at h
  by_cases h2 : s = [98, 108, 97, 110, 107]
  · rw [if_pos h2] at h
    injection h with h; subst h; subst h2
    exact ⟨([98, 108, 97, 110, 107], kBk), rfl, by kernel_rfl⟩
  rw [if_neg h2] at h
  by_cases h3 : s = [99, 110, 116, 114, 108]
  · rw [if_pos h3] at h
    injection h with h; subst h; subst h3
    exact ⟨([99, 110, 116, 114, 108], kCt), rfl, by kernel_rfl⟩
  rw [if_neg h3] at h
  by_cases h4 : s = [100, 105, 103, 105, 116]
  · rw [if_pos h4] at h
    injection h with h; subst h; subst h4
    exact ⟨([100, 105, 103, 105, 116], kDi), rfl, by kernel_rfl⟩
  rw [if_neg h4] at h
  by_cases h5 : s = [103, 114, 97, 112, 104]
  · rw [if_pos h5] at h
    injection h with h; subst h; subst h5
    exact ⟨([103, 114, 97, 112, 104], kGr), rfl, by kernel_rfl⟩
  rw [if_neg h5] at h
  by_cases h6 : s = [108, 111, 119, 101, 114]
  · rw [if_pos h6] at h
    injection h with h; subst h; subst h6
    exact ⟨([108, 111, 119, 101, 114], kLo), rfl, by kernel_rfl⟩
  rw [if_neg h6] at h
  by_cases h7 : s = [112, 114, 105, 110, 116]
  · rw [if_pos h7] at h
    injection h with h; subst h; subst h7
    exact ⟨([112, 114, 105, 110, 116], kPr), rfl, by kernel_rfl⟩
  rw [if_neg h7] at h
  by_cases h8 : s = [112, 117, 110, 99, 116]
  · rw [if_pos h8] at h
    injection h with h; subst h; subst h8
    exact ⟨([112, 117, 110, 99, 116], kPu), rfl, by kernel_rfl⟩
  rw [if_neg h8] at h
  by_cases h9 : s = [115, 112, 97, 99, 101]
  · rw [if_pos h9] at h
    injection h with h; subst h; subst h9
    exact ⟨([115, 112, 97, 99, 101], kSp), rfl, by kernel_rfl⟩
  rw [if_neg h9] at h
  by_cases h10 : s = [117, 112, 112, 101, 114]
  · rw [if_pos h10] at h
    injection h with h; subst h; subst h10
    exact ⟨([117, 112, 112, 101, 114], kUp), rfl, by kernel_rfl⟩
  rw [if_neg h10] at h
  by_cases h11 : s = [120, 100, 105, 103, 105, 116]
  · rw [if_pos h11] at h
    injection h with h; subst h; subst h11
    exact ⟨([120, 100, 105, 103, 105, 116], kXd), rfl, by kernel_rfl⟩
  rw [if_neg h11] at h
  cases h
/-- A name's class. -/
def nNamed (s : List Int) (ret : PV × Bool → R) : R :=
  match nmOf s with
  | some p => ret (p, true)
  | none => none
theorem nHas_ok : SndO Try.prog 23 f23_I f23_O nHas := by
  obtain ⟨k, hk⟩ := spec_Has.get
  refine SndO.of (S23 k).o fun x => ?_
  obtain ⟨p, b⟩ := x
  cases hp : numOf p with
  | none => exact .inr fun ret => by simp only [nHas, hp]
  | some n =>
    by_cases hb : 0 ≤ b ∧ b < 256
    · refine .inl fun ret => ?_
      have e := numOf_eq hp
      subst e
      obtain ⟨m, rfl⟩ : ∃ m : Nat, b = (m : Int) := ⟨b.toNat, by omega⟩
      simp only [nHas, hp, decide_eq_true hb.1, decide_eq_true hb.2, Bool.and_self, cond_true]
      rw [hk _ _ _ (by omega)]; rfl
    · refine .inr fun ret => ?_
      have : (decide (0 ≤ b) && decide (b < 256)) = false := by
        cases hc : (decide (0 ≤ b) && decide (b < 256)) with
        | false => rfl
        | true => simp only [Bool.and_eq_true, decide_eq_true_eq] at hc; exact absurd hc hb
      simp only [nHas, hp, this, cond_false]
theorem nNamed_ok : SndO Try.prog 38 f38_I f38_O nNamed := by
  obtain ⟨k, hk⟩ := spec_Named.get
  refine SndO.of (S38 k).o fun s => ?_
  cases hp : nmOf s with
  | none => exact .inr fun ret => by simp only [nNamed, hp]
  | some p =>
    obtain ⟨c, hc, rfl⟩ := nmOf_eq hp
    exact .inl fun ret => by simp only [nNamed, hp, hk, hc]
theorem nAwake_ok : SndO Try.prog 37 f37_I f37_O (fun (_ : Unit) ret => ret true) := by
  obtain ⟨k, hk⟩ := spec_awake.get
  refine SndO.of (S37 k).o fun s => .inl fun ret => by simp only [hk]

noncomputable def f8_I : Int → List SV × Obs := fun x => ([.int .u8 x], [])
noncomputable def f8_O : Bool → Out := fun y => ([.bool y], [])
def f8_un : Out → Option Bool
  | ([.bool y0], []) => some y0
  | _ => none
theorem f8_un_ok (o : Out) (y : Bool) (h : f8_un o = some y) : o = f8_O y := by
  unfold f8_un at h
  split at h
  · injection h with h; subst h; rfl
  · cases h
noncomputable def f8_C : Oracle := orc 23 f23_D f23_O nHas <| orc 38 f38_D f38_O nNamed <| orc 37 f37_D f37_O (fun (_ : Unit) ret => ret true) <| orc0
noncomputable def f8_E : Env := { P := Try.prog, nilOwn := fun d => false, fldOwn := fun d i => false, ownPar := ownPars, ownRet := false, mask := fun _ => none, fuel := 1, C := f8_C }
theorem f8_C_ok : OracleOk Try.prog f8_C := orc_ok nHas_ok f23_D_ok (orc_ok nNamed_ok f38_D_ok (orc_ok nAwake_ok f37_D_ok orc0_ok))
noncomputable def f8_code : Code := Try.f8.body.getD .skip
noncomputable def G8 (k : Nat) (b : Int) (ret : Bool → R) : R := exec f8_E f8_code (endK f8_E Try.f8 [] f8_un ret) { T := (f8_I b).1 ++ List.replicate (Try.f8.ntmps - (f8_I b).1.length) .undef, B := (f8_I b).2 }
theorem S8 : ∀ k, Snd Try.prog 8 f8_I f8_O (fun x ret => G8 k x (fun y0 => ret y0)) := fun k =>
  snd_step (E := f8_E) rfl laidOut noNums f8_C_ok (f := 8) (fn := Try.f8) (code := f8_code) Try.func8 (by kernel_rfl) (drawsOk_of laidOut f8_C_ok mixed (by kernel_rfl)) f8_un f8_un_ok [] (fun _ => rfl) (fun x ret => rfl)

def isT : R → Bool
  | some ([.bool true], []) => true
  | _ => false
theorem isT_eq {r : R} (h : isT r = true) : r = some ([.bool true], []) := by
  unfold isT at h
  split at h
  · rfl
  · cases h
end Go.Proofs.Ytifnlmfhbepjcaa
