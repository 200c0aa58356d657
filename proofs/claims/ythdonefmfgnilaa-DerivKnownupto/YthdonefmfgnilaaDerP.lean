/- The law DerivKnown comes out true: the function's run over what its calls come to. -/
import Derived.Test.YthdonefmfgnilaaRunP
set_option maxRecDepth 100000
namespace Go.Proofs.Ythdonefmfgnilaa
open Go Go.X

theorem DerivKnown.main : ∃ k, G4 k (fun y => some ([.bool y], [])) = some ([.bool true], []) := ⟨300, isT_eq (by kernel_rfl)⟩
end Go.Proofs.Ythdonefmfgnilaa
