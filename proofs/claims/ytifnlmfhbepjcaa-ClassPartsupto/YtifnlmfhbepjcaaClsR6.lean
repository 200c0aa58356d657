/- ClassParts: the runs at the bytes from 192 on. -/
import Derived.Test.YtifnlmfhbepjcaaClsP
set_option maxRecDepth 100000
namespace Go.Proofs.Ytifnlmfhbepjcaa
open Go Go.X

theorem run192 : ((List.range' 192 4).all fun b => isT (G8 0 (Int.ofNat b) (fun y => some ([.bool y], [])))) = true := by kernel_rfl
theorem run196 : ((List.range' 196 4).all fun b => isT (G8 0 (Int.ofNat b) (fun y => some ([.bool y], [])))) = true := by kernel_rfl
theorem run200 : ((List.range' 200 4).all fun b => isT (G8 0 (Int.ofNat b) (fun y => some ([.bool y], [])))) = true := by kernel_rfl
theorem run204 : ((List.range' 204 4).all fun b => isT (G8 0 (Int.ofNat b) (fun y => some ([.bool y], [])))) = true := by kernel_rfl
theorem run208 : ((List.range' 208 4).all fun b => isT (G8 0 (Int.ofNat b) (fun y => some ([.bool y], [])))) = true := by kernel_rfl
theorem run212 : ((List.range' 212 4).all fun b => isT (G8 0 (Int.ofNat b) (fun y => some ([.bool y], [])))) = true := by kernel_rfl
theorem run216 : ((List.range' 216 4).all fun b => isT (G8 0 (Int.ofNat b) (fun y => some ([.bool y], [])))) = true := by kernel_rfl
theorem run220 : ((List.range' 220 4).all fun b => isT (G8 0 (Int.ofNat b) (fun y => some ([.bool y], [])))) = true := by kernel_rfl
end Go.Proofs.Ytifnlmfhbepjcaa
