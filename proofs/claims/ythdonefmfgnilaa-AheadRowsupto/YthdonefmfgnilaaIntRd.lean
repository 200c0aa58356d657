/- Rows of numbers, and truths, as they are read. -/
import Derived.Test.YthdonefmfgnilaaSetRd
set_option linter.unusedVariables false
namespace Go.Proofs.Ythdonefmfgnilaa
open Go Go.X
theorem bool_of_rd {w : World} {M : Nat → Prop} {t : TypeId} {p : PV} {cs : List Value} (h : Rd Try.prog w M t p cs) (ht : t = 4) : ∃ b : Bool, p = .bool b ∧ True := by
  cases h with
  | nilSlice h1 => subst ht; rw [Try.underlying4] at h1; cases h1
  | slice h1 => subst ht; rw [Try.underlying4] at h1; cases h1
  | int h1 => subst ht; rw [Try.underlying4] at h1; cases h1
  | bool h1 => exact ⟨_, rfl, trivial⟩
  | str h1 => subst ht; rw [Try.underlying4] at h1; cases h1
  | flt h1 => subst ht; rw [Try.underlying4] at h1; cases h1
  | nilPtr h1 => subst ht; rw [Try.underlying4] at h1; cases h1
  | ref h1 => subst ht; rw [Try.underlying4] at h1; cases h1
  | nilIface h1 => subst ht; rw [Try.underlying4] at h1; cases h1
  | struct h1 => subst ht; rw [Try.underlying4] at h1; cases h1
  | arr h1 => subst ht; rw [Try.underlying4] at h1; cases h1
end Go.Proofs.Ythdonefmfgnilaa
