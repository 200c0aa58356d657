/- ClassParts: the runs at the bytes from 0 on. -/
import Derived.Test.YtifnlmfhbepjcaaClsP
set_option maxRecDepth 100000
namespace Go.Proofs.Ytifnlmfhbepjcaa
open Go Go.X

theorem run0 : ((List.range' 0 4).all fun b => isT (G8 0 (Int.ofNat b) (fun y => some ([.bool y], [])))) = true := by kernel_rfl
theorem run4 : ((List.range' 4 4).all fun b => isT (G8 0 (Int.ofNat b) (fun y => some ([.bool y], [])))) = true := by kernel_rfl
theorem run8 : ((List.range' 8 4).all fun b => isT (G8 0 (Int.ofNat b) (fun y => some ([.bool y], [])))) = true := by kernel_rfl
theorem run12 : ((List.range' 12 4).all fun b => isT (G8 0 (Int.ofNat b) (fun y => some ([.bool y], [])))) = true := by kernel_rfl
theorem run16 : ((List.range' 16 4).all fun b => isT (G8 0 (Int.ofNat b) (fun y => some ([.bool y], [])))) = true := by kernel_rfl
theorem run20 : ((List.range' 20 4).all fun b => isT (G8 0 (Int.ofNat b) (fun y => some ([.bool y], [])))) = true := by kernel_rfl
theorem run24 : ((List.range' 24 4).all fun b => isT (G8 0 (Int.ofNat b) (fun y => some ([.bool y], [])))) = true := by kernel_rfl
theorem run28 : ((List.range' 28 4).all fun b => isT (G8 0 (Int.ofNat b) (fun y => some ([.bool y], [])))) = true := by kernel_rfl
end Go.Proofs.Ytifnlmfhbepjcaa
