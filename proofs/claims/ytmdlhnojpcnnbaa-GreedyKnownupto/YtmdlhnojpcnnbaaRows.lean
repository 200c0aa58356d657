/-
  NARROWER THAN 'FOR EVERY INPUT', by the rows' own cells (each row's printed sentence says how): SpanSays: loops · SpanWhole: loops · SpanParts: loops · GreedySays: loops · GreedyFirst: loops · GreedyChooses: loops · GreedyBegins: loops.
  DERIVED. THE GIVEN ROWS OF THIS SEAT. 9 by the template 'for every input the law returns true; each argument reads behind the call as it read before'; 0 by the template 'total and deterministic' (their statements: YtmdlhnojpcnnbaaTotals.lean).
  GIVEN WITH THE SEED: the statements are not yours to turn. If you find one false, say at which input.
  Laid BY PROGRAM, IN A SANDBOX (cutbox-rows.mjs): the forced cells as the released guide's own fill.sh prints them over the translation 320b39afdabd62ee… (all of the seat's roots in one cut). By AI agents, Wed Nov 11 2026. No macro, syntax, notation, axiom, sorry.
-/
import Derived.Test.YtmdlhnojpcnnbaaChecked
import GoSem.Claim
import GoSem.ClaimJoined
import GoSem.ClaimMapViews
import Derived.JoinedTies
import Derived.KernelRfl
namespace Go.Proofs.Ytmdlhnojpcnnbaa
/- THE CELL 'sum', in the pinned program and in every row, IS THE sha256 OF THE DUMP (.gsa) THAT YtmdlhnojpcnnbaaProg.lean LOADS. Nothing in Lean hashes anything: it is a label: what it is worth is what the hold of that sum in a sandbox is worth. -/
noncomputable def Try.pinned : Pinned := { name := "ytmdlhnojpcnnbaa", sum := "320b39afdabd62eed82074d4429cf30a43bed5674353fc2f31ab89590de48c32", checked := Try.checked }
namespace Rows
def none {H : Type} : Left H := { results := [], args := [] }

/-- 'catchpolelaw20.SpanKnown': WHATEVER THE INPUT: true; the input reads as it did. -/
def spanKnownSpec : ChangeSpec := { name := "spanKnown", fn := fun _ => fun
  | [] => { results := [.lit (.bool true)], args := [] }
  | _ => none }
def spanKnownRow : OpenClaim := { program := "ytmdlhnojpcnnbaa", sum := "320b39afdabd62eed82074d4429cf30a43bed5674353fc2f31ab89590de48c32", func := "catchpole/catchpolelaw20.SpanKnown", spec := "spanKnown", inPlace := ["internal/abi.NoEscape"], unfollowed := true, recurses := true, apart := false }
def SpanKnownSaid : Prop := spanKnownRow.holds Try.pinned (OpenSpec.ofChange spanKnownSpec)

/-- ITS FALSE NEIGHBOUR: 'it returns false'. Refute it at one input. -/
def spanKnownWrong : ChangeSpec := { name := "spanKnown", fn := fun _ => fun
  | [] => { results := [.lit (.bool false)], args := [] }
  | _ => none }
def SpanKnownWrongFalsely : Prop := spanKnownRow.holds Try.pinned (OpenSpec.ofChange spanKnownWrong)

/-- 'catchpolelaw20.SpanSays': WHATEVER THE INPUT: true; the input reads as it did. -/
def spanSaysSpec : ChangeSpec := { name := "spanSays", fn := fun _ => fun
  | [d1, d2, d3, d4, d5] => { results := [.lit (.bool true)], args := [d1, d2, d3, d4, d5] }
  | _ => none }
def spanSaysRow : OpenClaim := { program := "ytmdlhnojpcnnbaa", sum := "320b39afdabd62eed82074d4429cf30a43bed5674353fc2f31ab89590de48c32", func := "catchpole/catchpolelaw20.SpanSays", spec := "spanSays", inPlace := ["internal/abi.NoEscape"], unfollowed := true, recurses := true, loops := true, apart := false }
def SpanSaysSaid : Prop := spanSaysRow.holds Try.pinned (OpenSpec.ofChange spanSaysSpec)

/-- ITS FALSE NEIGHBOUR: 'it returns false'. Refute it at one input. -/
def spanSaysWrong : ChangeSpec := { name := "spanSays", fn := fun _ => fun
  | [d1, d2, d3, d4, d5] => { results := [.lit (.bool false)], args := [d1, d2, d3, d4, d5] }
  | _ => none }
def SpanSaysWrongFalsely : Prop := spanSaysRow.holds Try.pinned (OpenSpec.ofChange spanSaysWrong)

/-- 'catchpolelaw20.SpanWhole': WHATEVER THE INPUT: true; the input reads as it did. -/
def spanWholeSpec : ChangeSpec := { name := "spanWhole", fn := fun _ => fun
  | [d1, d2, d3, d4] => { results := [.lit (.bool true)], args := [d1, d2, d3, d4] }
  | _ => none }
def spanWholeRow : OpenClaim := { program := "ytmdlhnojpcnnbaa", sum := "320b39afdabd62eed82074d4429cf30a43bed5674353fc2f31ab89590de48c32", func := "catchpole/catchpolelaw20.SpanWhole", spec := "spanWhole", inPlace := ["internal/abi.NoEscape"], unfollowed := true, recurses := true, loops := true, apart := false }
def SpanWholeSaid : Prop := spanWholeRow.holds Try.pinned (OpenSpec.ofChange spanWholeSpec)

/-- ITS FALSE NEIGHBOUR: 'it returns false'. Refute it at one input. -/
def spanWholeWrong : ChangeSpec := { name := "spanWhole", fn := fun _ => fun
  | [d1, d2, d3, d4] => { results := [.lit (.bool false)], args := [d1, d2, d3, d4] }
  | _ => none }
def SpanWholeWrongFalsely : Prop := spanWholeRow.holds Try.pinned (OpenSpec.ofChange spanWholeWrong)

/-- 'catchpolelaw20.SpanParts': WHATEVER THE INPUT: true; the input reads as it did. -/
def spanPartsSpec : ChangeSpec := { name := "spanParts", fn := fun _ => fun
  | [d1, d2, d3, d4, d5] => { results := [.lit (.bool true)], args := [d1, d2, d3, d4, d5] }
  | _ => none }
def spanPartsRow : OpenClaim := { program := "ytmdlhnojpcnnbaa", sum := "320b39afdabd62eed82074d4429cf30a43bed5674353fc2f31ab89590de48c32", func := "catchpole/catchpolelaw20.SpanParts", spec := "spanParts", inPlace := ["internal/abi.NoEscape"], unfollowed := true, recurses := true, loops := true, apart := false }
def SpanPartsSaid : Prop := spanPartsRow.holds Try.pinned (OpenSpec.ofChange spanPartsSpec)

/-- ITS FALSE NEIGHBOUR: 'it returns false'. Refute it at one input. -/
def spanPartsWrong : ChangeSpec := { name := "spanParts", fn := fun _ => fun
  | [d1, d2, d3, d4, d5] => { results := [.lit (.bool false)], args := [d1, d2, d3, d4, d5] }
  | _ => none }
def SpanPartsWrongFalsely : Prop := spanPartsRow.holds Try.pinned (OpenSpec.ofChange spanPartsWrong)

/-- 'catchpolelaw22.GreedyKnown': WHATEVER THE INPUT: true; the input reads as it did. -/
def greedyKnownSpec : ChangeSpec := { name := "greedyKnown", fn := fun _ => fun
  | [] => { results := [.lit (.bool true)], args := [] }
  | _ => none }
def greedyKnownRow : OpenClaim := { program := "ytmdlhnojpcnnbaa", sum := "320b39afdabd62eed82074d4429cf30a43bed5674353fc2f31ab89590de48c32", func := "catchpole/catchpolelaw22.GreedyKnown", spec := "greedyKnown", inPlace := ["internal/abi.NoEscape"], unfollowed := true, recurses := true, apart := false }
def GreedyKnownSaid : Prop := greedyKnownRow.holds Try.pinned (OpenSpec.ofChange greedyKnownSpec)

/-- ITS FALSE NEIGHBOUR: 'it returns false'. Refute it at one input. -/
def greedyKnownWrong : ChangeSpec := { name := "greedyKnown", fn := fun _ => fun
  | [] => { results := [.lit (.bool false)], args := [] }
  | _ => none }
def GreedyKnownWrongFalsely : Prop := greedyKnownRow.holds Try.pinned (OpenSpec.ofChange greedyKnownWrong)

/-- 'catchpolelaw22.GreedySays': WHATEVER THE INPUT: true; the input reads as it did. -/
def greedySaysSpec : ChangeSpec := { name := "greedySays", fn := fun _ => fun
  | [d1, d2] => { results := [.lit (.bool true)], args := [d1, d2] }
  | _ => none }
def greedySaysRow : OpenClaim := { program := "ytmdlhnojpcnnbaa", sum := "320b39afdabd62eed82074d4429cf30a43bed5674353fc2f31ab89590de48c32", func := "catchpole/catchpolelaw22.GreedySays", spec := "greedySays", inPlace := ["internal/abi.NoEscape"], unfollowed := true, recurses := true, loops := true, apart := false }
def GreedySaysSaid : Prop := greedySaysRow.holds Try.pinned (OpenSpec.ofChange greedySaysSpec)

/-- ITS FALSE NEIGHBOUR: 'it returns false'. Refute it at one input. -/
def greedySaysWrong : ChangeSpec := { name := "greedySays", fn := fun _ => fun
  | [d1, d2] => { results := [.lit (.bool false)], args := [d1, d2] }
  | _ => none }
def GreedySaysWrongFalsely : Prop := greedySaysRow.holds Try.pinned (OpenSpec.ofChange greedySaysWrong)

/-- 'catchpolelaw22.GreedyFirst': WHATEVER THE INPUT: true; the input reads as it did. -/
def greedyFirstSpec : ChangeSpec := { name := "greedyFirst", fn := fun _ => fun
  | [d1, d2] => { results := [.lit (.bool true)], args := [d1, d2] }
  | _ => none }
def greedyFirstRow : OpenClaim := { program := "ytmdlhnojpcnnbaa", sum := "320b39afdabd62eed82074d4429cf30a43bed5674353fc2f31ab89590de48c32", func := "catchpole/catchpolelaw22.GreedyFirst", spec := "greedyFirst", inPlace := ["internal/abi.NoEscape"], unfollowed := true, recurses := true, loops := true, apart := false }
def GreedyFirstSaid : Prop := greedyFirstRow.holds Try.pinned (OpenSpec.ofChange greedyFirstSpec)

/-- ITS FALSE NEIGHBOUR: 'it returns false'. Refute it at one input. -/
def greedyFirstWrong : ChangeSpec := { name := "greedyFirst", fn := fun _ => fun
  | [d1, d2] => { results := [.lit (.bool false)], args := [d1, d2] }
  | _ => none }
def GreedyFirstWrongFalsely : Prop := greedyFirstRow.holds Try.pinned (OpenSpec.ofChange greedyFirstWrong)

/-- 'catchpolelaw22.GreedyChooses': WHATEVER THE INPUT: true; the input reads as it did. -/
def greedyChoosesSpec : ChangeSpec := { name := "greedyChooses", fn := fun _ => fun
  | [d1, d2, d3] => { results := [.lit (.bool true)], args := [d1, d2, d3] }
  | _ => none }
def greedyChoosesRow : OpenClaim := { program := "ytmdlhnojpcnnbaa", sum := "320b39afdabd62eed82074d4429cf30a43bed5674353fc2f31ab89590de48c32", func := "catchpole/catchpolelaw22.GreedyChooses", spec := "greedyChooses", inPlace := ["internal/abi.NoEscape"], unfollowed := true, recurses := true, loops := true, apart := false }
def GreedyChoosesSaid : Prop := greedyChoosesRow.holds Try.pinned (OpenSpec.ofChange greedyChoosesSpec)

/-- ITS FALSE NEIGHBOUR: 'it returns false'. Refute it at one input. -/
def greedyChoosesWrong : ChangeSpec := { name := "greedyChooses", fn := fun _ => fun
  | [d1, d2, d3] => { results := [.lit (.bool false)], args := [d1, d2, d3] }
  | _ => none }
def GreedyChoosesWrongFalsely : Prop := greedyChoosesRow.holds Try.pinned (OpenSpec.ofChange greedyChoosesWrong)

/-- 'catchpolelaw22.GreedyBegins': WHATEVER THE INPUT: true; the input reads as it did. -/
def greedyBeginsSpec : ChangeSpec := { name := "greedyBegins", fn := fun _ => fun
  | [d1, d2] => { results := [.lit (.bool true)], args := [d1, d2] }
  | _ => none }
def greedyBeginsRow : OpenClaim := { program := "ytmdlhnojpcnnbaa", sum := "320b39afdabd62eed82074d4429cf30a43bed5674353fc2f31ab89590de48c32", func := "catchpole/catchpolelaw22.GreedyBegins", spec := "greedyBegins", inPlace := ["internal/abi.NoEscape"], unfollowed := true, recurses := true, loops := true, apart := false }
def GreedyBeginsSaid : Prop := greedyBeginsRow.holds Try.pinned (OpenSpec.ofChange greedyBeginsSpec)

/-- ITS FALSE NEIGHBOUR: 'it returns false'. Refute it at one input. -/
def greedyBeginsWrong : ChangeSpec := { name := "greedyBegins", fn := fun _ => fun
  | [d1, d2] => { results := [.lit (.bool false)], args := [d1, d2] }
  | _ => none }
def GreedyBeginsWrongFalsely : Prop := greedyBeginsRow.holds Try.pinned (OpenSpec.ofChange greedyBeginsWrong)

/- THE SECOND FORM. 'bulk': how many values and letters a reading holds, each counted each time it is reached (what is shared counts as often as it is met; a slice's spare places count too). A statement '..UptoSaid' is the law's where the arguments, and the package variables that the reading takes, are together of bulk at most 1048576: NARROWER than '..Said'. Prove '..Said' where nothing that the law and all that it calls make is longer than what came in: it says more and counts as full. Else prove '..UptoSaid'. A law counts once. -/
mutual
def uptoBulk {H : Type} : DataW H → Nat
  | .lit (.string bytes) => bytes.length + 1
  | .lit _ => 1
  | .nil => 1
  | .ptr d => uptoBulk d + 1
  | .slice elems spare => uptoBulkAll elems + uptoBulkAll spare + 1
  | .agg parts => uptoBulkAll parts + 1
  | .iface _ d => uptoBulk d + 1
  | .map entries => uptoBulkEntries entries + 1
  | .held _ => 1
def uptoBulkAll {H : Type} : List (DataW H) → Nat
  | [] => 0
  | d :: r => uptoBulk d + uptoBulkAll r
def uptoBulkEntries {H : Type} : List (Lit × DataW H) → Nat
  | [] => 0
  | x :: r => uptoBulkEntry x + uptoBulkEntries r
def uptoBulkEntry {H : Type} : Lit × DataW H → Nat
  | (.string bytes, d) => bytes.length + uptoBulk d + 1
  | (_, d) => uptoBulk d + 1
 end
def uptoSmall : (H : Type) → List (DataW H) → Bool := fun _ ds => decide (uptoBulkAll ds ≤ 1048576)
def OpenSpec.upto (s : _root_.Go.ChangeSpec) : _root_.Go.OpenSpec := { _root_.Go.OpenSpec.ofChange s with cond := some uptoSmall }

/-- 'catchpolelaw20.SpanKnown', WHERE WHAT IT READS IS OF BULK AT MOST 1048576: true; the input reads as it did. -/
def spanKnownUptoRow : OpenClaim := { program := "ytmdlhnojpcnnbaa", sum := "320b39afdabd62eed82074d4429cf30a43bed5674353fc2f31ab89590de48c32", func := "catchpole/catchpolelaw20.SpanKnown", spec := "spanKnown", inPlace := ["internal/abi.NoEscape"], unfollowed := true, recurses := true, apart := false, narrowed := true }
def SpanKnownUptoSaid : Prop := spanKnownUptoRow.holds Try.pinned (OpenSpec.upto spanKnownSpec)

/-- 'catchpolelaw20.SpanSays', WHERE WHAT IT READS IS OF BULK AT MOST 1048576: true; the input reads as it did. -/
def spanSaysUptoRow : OpenClaim := { program := "ytmdlhnojpcnnbaa", sum := "320b39afdabd62eed82074d4429cf30a43bed5674353fc2f31ab89590de48c32", func := "catchpole/catchpolelaw20.SpanSays", spec := "spanSays", inPlace := ["internal/abi.NoEscape"], unfollowed := true, recurses := true, loops := true, apart := false, narrowed := true }
def SpanSaysUptoSaid : Prop := spanSaysUptoRow.holds Try.pinned (OpenSpec.upto spanSaysSpec)

/-- 'catchpolelaw20.SpanWhole', WHERE WHAT IT READS IS OF BULK AT MOST 1048576: true; the input reads as it did. -/
def spanWholeUptoRow : OpenClaim := { program := "ytmdlhnojpcnnbaa", sum := "320b39afdabd62eed82074d4429cf30a43bed5674353fc2f31ab89590de48c32", func := "catchpole/catchpolelaw20.SpanWhole", spec := "spanWhole", inPlace := ["internal/abi.NoEscape"], unfollowed := true, recurses := true, loops := true, apart := false, narrowed := true }
def SpanWholeUptoSaid : Prop := spanWholeUptoRow.holds Try.pinned (OpenSpec.upto spanWholeSpec)

/-- 'catchpolelaw20.SpanParts', WHERE WHAT IT READS IS OF BULK AT MOST 1048576: true; the input reads as it did. -/
def spanPartsUptoRow : OpenClaim := { program := "ytmdlhnojpcnnbaa", sum := "320b39afdabd62eed82074d4429cf30a43bed5674353fc2f31ab89590de48c32", func := "catchpole/catchpolelaw20.SpanParts", spec := "spanParts", inPlace := ["internal/abi.NoEscape"], unfollowed := true, recurses := true, loops := true, apart := false, narrowed := true }
def SpanPartsUptoSaid : Prop := spanPartsUptoRow.holds Try.pinned (OpenSpec.upto spanPartsSpec)

/-- 'catchpolelaw22.GreedyKnown', WHERE WHAT IT READS IS OF BULK AT MOST 1048576: true; the input reads as it did. -/
def greedyKnownUptoRow : OpenClaim := { program := "ytmdlhnojpcnnbaa", sum := "320b39afdabd62eed82074d4429cf30a43bed5674353fc2f31ab89590de48c32", func := "catchpole/catchpolelaw22.GreedyKnown", spec := "greedyKnown", inPlace := ["internal/abi.NoEscape"], unfollowed := true, recurses := true, apart := false, narrowed := true }
def GreedyKnownUptoSaid : Prop := greedyKnownUptoRow.holds Try.pinned (OpenSpec.upto greedyKnownSpec)

/-- 'catchpolelaw22.GreedySays', WHERE WHAT IT READS IS OF BULK AT MOST 1048576: true; the input reads as it did. -/
def greedySaysUptoRow : OpenClaim := { program := "ytmdlhnojpcnnbaa", sum := "320b39afdabd62eed82074d4429cf30a43bed5674353fc2f31ab89590de48c32", func := "catchpole/catchpolelaw22.GreedySays", spec := "greedySays", inPlace := ["internal/abi.NoEscape"], unfollowed := true, recurses := true, loops := true, apart := false, narrowed := true }
def GreedySaysUptoSaid : Prop := greedySaysUptoRow.holds Try.pinned (OpenSpec.upto greedySaysSpec)

/-- 'catchpolelaw22.GreedyFirst', WHERE WHAT IT READS IS OF BULK AT MOST 1048576: true; the input reads as it did. -/
def greedyFirstUptoRow : OpenClaim := { program := "ytmdlhnojpcnnbaa", sum := "320b39afdabd62eed82074d4429cf30a43bed5674353fc2f31ab89590de48c32", func := "catchpole/catchpolelaw22.GreedyFirst", spec := "greedyFirst", inPlace := ["internal/abi.NoEscape"], unfollowed := true, recurses := true, loops := true, apart := false, narrowed := true }
def GreedyFirstUptoSaid : Prop := greedyFirstUptoRow.holds Try.pinned (OpenSpec.upto greedyFirstSpec)

/-- 'catchpolelaw22.GreedyChooses', WHERE WHAT IT READS IS OF BULK AT MOST 1048576: true; the input reads as it did. -/
def greedyChoosesUptoRow : OpenClaim := { program := "ytmdlhnojpcnnbaa", sum := "320b39afdabd62eed82074d4429cf30a43bed5674353fc2f31ab89590de48c32", func := "catchpole/catchpolelaw22.GreedyChooses", spec := "greedyChooses", inPlace := ["internal/abi.NoEscape"], unfollowed := true, recurses := true, loops := true, apart := false, narrowed := true }
def GreedyChoosesUptoSaid : Prop := greedyChoosesUptoRow.holds Try.pinned (OpenSpec.upto greedyChoosesSpec)

/-- 'catchpolelaw22.GreedyBegins', WHERE WHAT IT READS IS OF BULK AT MOST 1048576: true; the input reads as it did. -/
def greedyBeginsUptoRow : OpenClaim := { program := "ytmdlhnojpcnnbaa", sum := "320b39afdabd62eed82074d4429cf30a43bed5674353fc2f31ab89590de48c32", func := "catchpole/catchpolelaw22.GreedyBegins", spec := "greedyBegins", inPlace := ["internal/abi.NoEscape"], unfollowed := true, recurses := true, loops := true, apart := false, narrowed := true }
def GreedyBeginsUptoSaid : Prop := greedyBeginsUptoRow.holds Try.pinned (OpenSpec.upto greedyBeginsSpec)

end Rows
end Go.Proofs.Ytmdlhnojpcnnbaa
