/- Whole numbers, as they can be read. -/
import Derived.Test.YtmdlhnojpcnnbaaFPb
namespace Go.Proofs.Ytmdlhnojpcnnbaa
open Go Go.X

theorem cells_int {w : World} {M : Nat → Prop} {t : TypeId} {k : IntKind} {p : PV} {cs : List Value} (hu : Try.prog.underlying t = some (.int k)) (h : Rd Try.prog w M t p cs) : ∃ n, p = .int n ∧ (Lit.int k n).wf = true := by
  cases h with
  | int h1 h2 => rw [hu] at h1; injection h1 with h1; injection h1 with h1; subst h1; exact ⟨_, rfl, h2⟩
  | bool h1 => rw [hu] at h1; cases h1
  | str h1 => rw [hu] at h1; cases h1
  | flt h1 => rw [hu] at h1; cases h1
  | nilSlice h1 => rw [hu] at h1; cases h1
  | slice h1 => rw [hu] at h1; cases h1
  | nilPtr h1 => rw [hu] at h1; cases h1
  | ref h1 => rw [hu] at h1; cases h1
  | nilIface h1 => rw [hu] at h1; cases h1
  | struct h1 => rw [hu] at h1; cases h1
  | arr h1 => rw [hu] at h1; cases h1

end Go.Proofs.Ytmdlhnojpcnnbaa
