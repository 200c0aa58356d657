/- The law GreedyKnown comes out true: the function's run over what its calls come to. -/
import Derived.Test.YtmdlhnojpcnnbaaRunP
set_option maxRecDepth 100000
namespace Go.Proofs.Ytmdlhnojpcnnbaa
open Go Go.X

theorem GreedyKnown.main : ∃ k, G7 k (fun y => some ([.bool y], [])) = some ([.bool true], []) := ⟨1000, isT_eq (by kernel_rfl)⟩
end Go.Proofs.Ytmdlhnojpcnnbaa
