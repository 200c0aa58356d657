/- ClassParts: the runs at the bytes from 224 on. -/
import Derived.Test.YtifnlmfhbepjcaaClsP
set_option maxRecDepth 100000
namespace Go.Proofs.Ytifnlmfhbepjcaa
open Go Go.X

theorem run224 : ((List.range' 224 4).all fun b => isT (G8 0 (Int.ofNat b) (fun y => some ([.bool y], [])))) = true := by kernel_rfl
theorem run228 : ((List.range' 228 4).all fun b => isT (G8 0 (Int.ofNat b) (fun y => some ([.bool y], [])))) = true := by kernel_rfl
theorem run232 : ((List.range' 232 4).all fun b => isT (G8 0 (Int.ofNat b) (fun y => some ([.bool y], [])))) = true := by kernel_rfl
theorem run236 : ((List.range' 236 4).all fun b => isT (G8 0 (Int.ofNat b) (fun y => some ([.bool y], [])))) = true := by kernel_rfl
theorem run240 : ((List.range' 240 4).all fun b => isT (G8 0 (Int.ofNat b) (fun y => some ([.bool y], [])))) = true := by kernel_rfl
theorem run244 : ((List.range' 244 4).all fun b => isT (G8 0 (Int.ofNat b) (fun y => some ([.bool y], [])))) = true := by kernel_rfl
theorem run248 : ((List.range' 248 4).all fun b => isT (G8 0 (Int.ofNat b) (fun y => some ([.bool y], [])))) = true := by kernel_rfl
theorem run252 : ((List.range' 252 4).all fun b => isT (G8 0 (Int.ofNat b) (fun y => some ([.bool y], [])))) = true := by kernel_rfl
end Go.Proofs.Ytifnlmfhbepjcaa
