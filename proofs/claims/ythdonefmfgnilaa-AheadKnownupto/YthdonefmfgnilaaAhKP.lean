/- The law AheadKnown comes out true: the function's run over what its calls come to. -/
import Derived.Test.YthdonefmfgnilaaRunP
set_option maxRecDepth 100000
namespace Go.Proofs.Ythdonefmfgnilaa
open Go Go.X

theorem AheadKnown.main : ∃ k, G8 k (fun y => some ([.bool y], [])) = some ([.bool true], []) := ⟨1000, isT_eq (by kernel_rfl)⟩
end Go.Proofs.Ythdonefmfgnilaa
