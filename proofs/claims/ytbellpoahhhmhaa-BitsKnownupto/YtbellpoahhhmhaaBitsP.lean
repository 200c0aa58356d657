/- The law BitsKnown comes out true: the function's run over what its calls come to. -/
import Derived.Test.YtbellpoahhhmhaaRunP
set_option maxRecDepth 100000
namespace Go.Proofs.Ytbellpoahhhmhaa
open Go Go.X

theorem BitsKnown.main : ∃ k, G10 k (fun y => some ([.bool y], [])) = some ([.bool true], []) := ⟨300, isT_eq (by kernel_rfl)⟩
end Go.Proofs.Ytbellpoahhhmhaa
