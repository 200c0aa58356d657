/- Rows of bytes; (*strings.Builder).WriteString. -/
import Derived.Test.YtbellpoahhhmhaaFb
set_option linter.unusedSimpArgs false
set_option linter.unusedVariables false
namespace Go.Proofs.Ytbellpoahhhmhaa
open Go Go.X

def pvI (l : List Int) : List PV := l.map PV.int
theorem pvI_len (l : List Int) : (pvI l).length = l.length := by simp [pvI]
theorem pvI_num (l : List Int) : (pvI l).map PV.num = l := by
  induction l with
  | nil => rfl
  | cons a l ih => simp only [pvI, List.map_cons, PV.num] at ih ⊢; rw [ih]

theorem spec_WSu : Ult fun k => ∀ (s : List Int) (l : List PV) ret, l.length + s.length ≤ 35184372088832 → G82v1 k s l ret = ret (s.length : Int) PV.nil (l ++ pvI s) :=
  Ult.succ (Ult.of fun k s l ret h => by
    simp only [G82v1, f82v1_N, f82v1_e, G92v1]
    rw [roomy_of (by simp; omega) (by simp; omega)]
    rfl)
theorem spec_WSf : Ult fun k => ∀ (s : List Int) (l : List PV) ret, l.length + s.length ≤ 35184372088832 → G82 k s PV.nil l ret = ret (s.length : Int) PV.nil (l ++ pvI s) :=
  Ult.succ (Ult.of fun k s l ret h => by
    simp only [G82, f82_N, f82_e, G92, PV.isNil, cond_true]
    rw [roomy_of (by simp; omega) (by simp; omega)]
    rfl)

end Go.Proofs.Ytbellpoahhhmhaa
