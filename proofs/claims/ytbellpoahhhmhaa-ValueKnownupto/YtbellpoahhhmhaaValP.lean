/- The law ValueKnown comes out true: the function's run over what its calls come to. -/
import Derived.Test.YtbellpoahhhmhaaFb
set_option maxRecDepth 100000
namespace Go.Proofs.Ytbellpoahhhmhaa
open Go Go.X

def isT : R → Bool
  | some ([.bool true], []) => true
  | _ => false
theorem isT_eq {r : R} (h : isT r = true) : r = some ([.bool true], []) := by
  unfold isT at h
  split at h
  · rfl
  · cases h
theorem ValueKnown.main : ∃ k, G6 k (fun y => some ([.bool y], [])) = some ([.bool true], []) := ⟨300, isT_eq (by kernel_rfl)⟩
end Go.Proofs.Ytbellpoahhhmhaa
