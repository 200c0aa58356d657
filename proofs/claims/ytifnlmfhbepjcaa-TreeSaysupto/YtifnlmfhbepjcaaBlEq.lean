/- Sets as rows of truth values: alike just if they are the same. -/
import Derived.Test.YtifnlmfhbepjcaaBl0
set_option linter.unusedSimpArgs false
set_option linter.unusedVariables false
namespace Go.Proofs.Ytifnlmfhbepjcaa
open Go Go.X

theorem beqs_bools (f g : Nat → Bool) : ∀ l : List Nat, PV.beqs (l.map fun i => PV.bool (f i)) (l.map fun i => PV.bool (g i)) = l.all fun i => f i == g i
  | [] => rfl
  | a :: l => by simp only [List.map_cons, PV.beqs, PV.beq, List.all_cons, beqs_bools f g l]
theorem bl_beq {n m : Nat} (hn : n < 2 ^ 256) (hm : m < 2 ^ 256) : PV.beq (bl n.testBit) (bl m.testBit) = decide (n = m) := by
  have e : PV.beq (bl n.testBit) (bl m.testBit) = (List.range 256).all fun i => n.testBit i == m.testBit i := by
    unfold bl
    rw [PV.beq, beqs_bools]
  rw [e, Bool.eq_iff_iff, decide_eq_true_eq, List.all_eq_true]
  constructor
  · intro h
    refine set_ext hn hm fun i hi => ?_
    simpa using h i (List.mem_range.2 hi)
  · rintro rfl i _; simp
theorem bl_zero' : PV.agg (List.replicate 256 (PV.bool false)) = bl (0 : Nat).testBit := by
  rw [bl_zero]; exact bl_congr fun i _ => by simp
end Go.Proofs.Ytifnlmfhbepjcaa
