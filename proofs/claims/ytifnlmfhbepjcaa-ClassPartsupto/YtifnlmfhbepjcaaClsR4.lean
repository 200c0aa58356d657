/- ClassParts: the runs at the bytes from 128 on. -/
import Derived.Test.YtifnlmfhbepjcaaClsP
set_option maxRecDepth 100000
namespace Go.Proofs.Ytifnlmfhbepjcaa
open Go Go.X

theorem run128 : ((List.range' 128 4).all fun b => isT (G8 0 (Int.ofNat b) (fun y => some ([.bool y], [])))) = true := by kernel_rfl
theorem run132 : ((List.range' 132 4).all fun b => isT (G8 0 (Int.ofNat b) (fun y => some ([.bool y], [])))) = true := by kernel_rfl
theorem run136 : ((List.range' 136 4).all fun b => isT (G8 0 (Int.ofNat b) (fun y => some ([.bool y], [])))) = true := by kernel_rfl
theorem run140 : ((List.range' 140 4).all fun b => isT (G8 0 (Int.ofNat b) (fun y => some ([.bool y], [])))) = true := by kernel_rfl
theorem run144 : ((List.range' 144 4).all fun b => isT (G8 0 (Int.ofNat b) (fun y => some ([.bool y], [])))) = true := by kernel_rfl
theorem run148 : ((List.range' 148 4).all fun b => isT (G8 0 (Int.ofNat b) (fun y => some ([.bool y], [])))) = true := by kernel_rfl
theorem run152 : ((List.range' 152 4).all fun b => isT (G8 0 (Int.ofNat b) (fun y => some ([.bool y], [])))) = true := by kernel_rfl
theorem run156 : ((List.range' 156 4).all fun b => isT (G8 0 (Int.ofNat b) (fun y => some ([.bool y], [])))) = true := by kernel_rfl
end Go.Proofs.Ytifnlmfhbepjcaa
