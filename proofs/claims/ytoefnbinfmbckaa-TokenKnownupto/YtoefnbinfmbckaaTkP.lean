/- The law TokenKnown comes out true: the function's run over what its calls come to. -/
import Derived.Test.YtoefnbinfmbckaaRunP
set_option maxRecDepth 100000
namespace Go.Proofs.Ytoefnbinfmbckaa
open Go Go.X

theorem TokenKnown.main : ∃ k, G3 k (fun y => some ([.bool y], [])) = some ([.bool true], []) := ⟨300, isT_eq (by kernel_rfl)⟩
end Go.Proofs.Ytoefnbinfmbckaa
