/- ClassParts: the runs at the bytes from 32 on. -/
import Derived.Test.YtifnlmfhbepjcaaClsP
set_option maxRecDepth 100000
namespace Go.Proofs.Ytifnlmfhbepjcaa
open Go Go.X

theorem run32 : ((List.range' 32 4).all fun b => isT (G8 0 (Int.ofNat b) (fun y => some ([.bool y], [])))) = true := by kernel_rfl
theorem run36 : ((List.range' 36 4).all fun b => isT (G8 0 (Int.ofNat b) (fun y => some ([.bool y], [])))) = true := by kernel_rfl
theorem run40 : ((List.range' 40 4).all fun b => isT (G8 0 (Int.ofNat b) (fun y => some ([.bool y], [])))) = true := by kernel_rfl
theorem run44 : ((List.range' 44 4).all fun b => isT (G8 0 (Int.ofNat b) (fun y => some ([.bool y], [])))) = true := by kernel_rfl
theorem run48 : ((List.range' 48 4).all fun b => isT (G8 0 (Int.ofNat b) (fun y => some ([.bool y], [])))) = true := by kernel_rfl
theorem run52 : ((List.range' 52 4).all fun b => isT (G8 0 (Int.ofNat b) (fun y => some ([.bool y], [])))) = true := by kernel_rfl
theorem run56 : ((List.range' 56 4).all fun b => isT (G8 0 (Int.ofNat b) (fun y => some ([.bool y], [])))) = true := by kernel_rfl
theorem run60 : ((List.range' 60 4).all fun b => isT (G8 0 (Int.ofNat b) (fun y => some ([.bool y], [])))) = true := by kernel_rfl
end Go.Proofs.Ytifnlmfhbepjcaa
