/- A core's kids, by its kind. -/
import Derived.Test.YtmdlhnojpcnnbaaCorK
set_option linter.unusedSimpArgs false
set_option linter.unusedVariables false
namespace Go.Proofs.Ytmdlhnojpcnnbaa
open Go Go.X

namespace Cor
inductive Kids : Int → List Cor → Prop
  | k0 {k} : k = 0 ∨ k = 1 ∨ k = 2 → Kids k []
  | k1 {k x} : k = 5 ∨ k = 6 ∨ k = 7 → Kids k [x]
  | k2 {k x y} : k = 3 ∨ k = 4 → Kids k [x, y]
theorem kids_of {k : Int} {s : Nat} {n : Int} {l : List Cor} (h : (mk k s n l).fmd = true) : Kids k l ∧ ∀ x ∈ l, x.fmd = true := by
  simp only [fmd, nodeOk, Bool.and_eq_true, fmds_all, List.all_eq_true] at h
  refine ⟨?_, h.2⟩
  have hl : (l.length : Int) = partsI k := by simpa using h.1.1
  unfold partsI at hl
  match l, hl with
  | [], hl =>
    refine .k0 ?_
    by_cases e0 : k = 0
    · exact .inl e0
    by_cases e1 : k = 1
    · exact .inr (.inl e1)
    by_cases e2 : k = 2
    · exact .inr (.inr e2)
    exfalso
    simp only [e0, e1, e2, if_false, List.length_nil] at hl
    repeat' split at hl
    all_goals omega
  | [x], hl =>
    refine .k1 ?_
    by_cases e5 : k = 5
    · exact .inl e5
    by_cases e6 : k = 6
    · exact .inr (.inl e6)
    by_cases e7 : k = 7
    · exact .inr (.inr e7)
    exfalso
    simp only [e5, e6, e7, if_false, List.length_cons, List.length_nil] at hl
    repeat' split at hl
    all_goals omega
  | [x, y], hl =>
    refine .k2 ?_
    by_cases e3 : k = 3
    · exact .inl e3
    by_cases e4 : k = 4
    · exact .inr e4
    exfalso
    simp only [e3, e4, if_false, List.length_cons, List.length_nil] at hl
    repeat' split at hl
    all_goals omega
  | x :: y :: z :: t, hl =>
    exfalso
    simp only [List.length_cons] at hl
    repeat' split at hl
    all_goals omega
end Cor
end Go.Proofs.Ytmdlhnojpcnnbaa
