/- What a run came to. -/
import Derived.Test.YtmdlhnojpcnnbaaFHb
namespace Go.Proofs.Ytmdlhnojpcnnbaa
open Go Go.X

def isT : R → Bool
  | some ([.bool true], []) => true
  | _ => false
theorem isT_eq {r : R} (h : isT r = true) : r = some ([.bool true], []) := by
  unfold isT at h
  split at h
  · rfl
  · cases h
end Go.Proofs.Ytmdlhnojpcnnbaa
