/-
  NARROWER THAN 'FOR EVERY INPUT', by the rows' own cells (each row's printed sentence says how): DerivWord: loops · DerivTidy: loops · DerivFirst: loops · DerivLeft: loops · AheadMore: loops · AheadWhole: loops · AheadRows: loops · EveryRows: loops · EveryFull: loops.
  DERIVED. THE GIVEN ROWS OF THIS SEAT. 11 by the template 'for every input the law returns true; each argument reads behind the call as it read before'; 0 by the template 'total and deterministic' (their statements: YthdonefmfgnilaaTotals.lean).
  GIVEN WITH THE SEED: the statements are not yours to turn. If you find one false, say at which input.
  Laid BY PROGRAM, IN A SANDBOX (cutbox-rows.mjs): the forced cells as the released guide's own fill.sh prints them over the translation 1b3c4a192254bdb2… (all of the seat's roots in one cut). By AI agents, Wed Nov 11 2026. No macro, syntax, notation, axiom, sorry.
-/
import Derived.Test.YthdonefmfgnilaaChecked
import GoSem.Claim
import GoSem.ClaimJoined
import GoSem.ClaimMapViews
import Derived.JoinedTies
import Derived.KernelRfl
namespace Go.Proofs.Ythdonefmfgnilaa
/- THE CELL 'sum', in the pinned program and in every row, IS THE sha256 OF THE DUMP (.gsa) THAT YthdonefmfgnilaaProg.lean LOADS. Nothing in Lean hashes anything: it is a label: what it is worth is what the hold of that sum in a sandbox is worth. -/
noncomputable def Try.pinned : Pinned := { name := "ythdonefmfgnilaa", sum := "1b3c4a192254bdb227d10d7ad2cadc1c715b98eb55cd3f059fb6dd1e0dce44d2", checked := Try.checked }
namespace Rows
def none {H : Type} : Left H := { results := [], args := [] }

/-- 'catchpolelaw16.DerivWord': WHATEVER THE INPUT: true; the input reads as it did. -/
def derivWordSpec : ChangeSpec := { name := "derivWord", fn := fun _ => fun
  | [d1, d2, d3] => { results := [.lit (.bool true)], args := [d1, d2, d3] }
  | _ => none }
def derivWordRow : OpenClaim := { program := "ythdonefmfgnilaa", sum := "1b3c4a192254bdb227d10d7ad2cadc1c715b98eb55cd3f059fb6dd1e0dce44d2", func := "catchpole/catchpolelaw16.DerivWord", spec := "derivWord", unfollowed := true, recurses := true, loops := true, apart := false }
def DerivWordSaid : Prop := derivWordRow.holds Try.pinned (OpenSpec.ofChange derivWordSpec)

/-- ITS FALSE NEIGHBOUR: 'it returns false'. Refute it at one input. -/
def derivWordWrong : ChangeSpec := { name := "derivWord", fn := fun _ => fun
  | [d1, d2, d3] => { results := [.lit (.bool false)], args := [d1, d2, d3] }
  | _ => none }
def DerivWordWrongFalsely : Prop := derivWordRow.holds Try.pinned (OpenSpec.ofChange derivWordWrong)

/-- 'catchpolelaw16.DerivKnown': WHATEVER THE INPUT: true; the input reads as it did. -/
def derivKnownSpec : ChangeSpec := { name := "derivKnown", fn := fun _ => fun
  | [] => { results := [.lit (.bool true)], args := [] }
  | _ => none }
def derivKnownRow : OpenClaim := { program := "ythdonefmfgnilaa", sum := "1b3c4a192254bdb227d10d7ad2cadc1c715b98eb55cd3f059fb6dd1e0dce44d2", func := "catchpole/catchpolelaw16.DerivKnown", spec := "derivKnown", unfollowed := true, recurses := true, apart := false }
def DerivKnownSaid : Prop := derivKnownRow.holds Try.pinned (OpenSpec.ofChange derivKnownSpec)

/-- ITS FALSE NEIGHBOUR: 'it returns false'. Refute it at one input. -/
def derivKnownWrong : ChangeSpec := { name := "derivKnown", fn := fun _ => fun
  | [] => { results := [.lit (.bool false)], args := [] }
  | _ => none }
def DerivKnownWrongFalsely : Prop := derivKnownRow.holds Try.pinned (OpenSpec.ofChange derivKnownWrong)

/-- 'catchpolelaw16.DerivTidy': WHATEVER THE INPUT: true; the input reads as it did. -/
def derivTidySpec : ChangeSpec := { name := "derivTidy", fn := fun _ => fun
  | [d] => { results := [.lit (.bool true)], args := [d] }
  | _ => none }
def derivTidyRow : OpenClaim := { program := "ythdonefmfgnilaa", sum := "1b3c4a192254bdb227d10d7ad2cadc1c715b98eb55cd3f059fb6dd1e0dce44d2", func := "catchpole/catchpolelaw16.DerivTidy", spec := "derivTidy", unfollowed := true, recurses := true, loops := true, apart := false }
def DerivTidySaid : Prop := derivTidyRow.holds Try.pinned (OpenSpec.ofChange derivTidySpec)

/-- ITS FALSE NEIGHBOUR: 'it returns false'. Refute it at one input. -/
def derivTidyWrong : ChangeSpec := { name := "derivTidy", fn := fun _ => fun
  | [d] => { results := [.lit (.bool false)], args := [d] }
  | _ => none }
def DerivTidyWrongFalsely : Prop := derivTidyRow.holds Try.pinned (OpenSpec.ofChange derivTidyWrong)

/-- 'catchpolelaw16.DerivFirst': WHATEVER THE INPUT: true; the input reads as it did. -/
def derivFirstSpec : ChangeSpec := { name := "derivFirst", fn := fun _ => fun
  | [d1, d2] => { results := [.lit (.bool true)], args := [d1, d2] }
  | _ => none }
def derivFirstRow : OpenClaim := { program := "ythdonefmfgnilaa", sum := "1b3c4a192254bdb227d10d7ad2cadc1c715b98eb55cd3f059fb6dd1e0dce44d2", func := "catchpole/catchpolelaw16.DerivFirst", spec := "derivFirst", unfollowed := true, recurses := true, loops := true, apart := false }
def DerivFirstSaid : Prop := derivFirstRow.holds Try.pinned (OpenSpec.ofChange derivFirstSpec)

/-- ITS FALSE NEIGHBOUR: 'it returns false'. Refute it at one input. -/
def derivFirstWrong : ChangeSpec := { name := "derivFirst", fn := fun _ => fun
  | [d1, d2] => { results := [.lit (.bool false)], args := [d1, d2] }
  | _ => none }
def DerivFirstWrongFalsely : Prop := derivFirstRow.holds Try.pinned (OpenSpec.ofChange derivFirstWrong)

/-- 'catchpolelaw16.DerivLeft': WHATEVER THE INPUT: true; the input reads as it did. -/
def derivLeftSpec : ChangeSpec := { name := "derivLeft", fn := fun _ => fun
  | [d1, d2, d3] => { results := [.lit (.bool true)], args := [d1, d2, d3] }
  | _ => none }
def derivLeftRow : OpenClaim := { program := "ythdonefmfgnilaa", sum := "1b3c4a192254bdb227d10d7ad2cadc1c715b98eb55cd3f059fb6dd1e0dce44d2", func := "catchpole/catchpolelaw16.DerivLeft", spec := "derivLeft", unfollowed := true, recurses := true, loops := true, apart := false }
def DerivLeftSaid : Prop := derivLeftRow.holds Try.pinned (OpenSpec.ofChange derivLeftSpec)

/-- ITS FALSE NEIGHBOUR: 'it returns false'. Refute it at one input. -/
def derivLeftWrong : ChangeSpec := { name := "derivLeft", fn := fun _ => fun
  | [d1, d2, d3] => { results := [.lit (.bool false)], args := [d1, d2, d3] }
  | _ => none }
def DerivLeftWrongFalsely : Prop := derivLeftRow.holds Try.pinned (OpenSpec.ofChange derivLeftWrong)

/-- 'catchpolelaw21.AheadKnown': WHATEVER THE INPUT: true; the input reads as it did. -/
def aheadKnownSpec : ChangeSpec := { name := "aheadKnown", fn := fun _ => fun
  | [] => { results := [.lit (.bool true)], args := [] }
  | _ => none }
def aheadKnownRow : OpenClaim := { program := "ythdonefmfgnilaa", sum := "1b3c4a192254bdb227d10d7ad2cadc1c715b98eb55cd3f059fb6dd1e0dce44d2", func := "catchpole/catchpolelaw21.AheadKnown", spec := "aheadKnown", unfollowed := true, recurses := true, apart := false }
def AheadKnownSaid : Prop := aheadKnownRow.holds Try.pinned (OpenSpec.ofChange aheadKnownSpec)

/-- ITS FALSE NEIGHBOUR: 'it returns false'. Refute it at one input. -/
def aheadKnownWrong : ChangeSpec := { name := "aheadKnown", fn := fun _ => fun
  | [] => { results := [.lit (.bool false)], args := [] }
  | _ => none }
def AheadKnownWrongFalsely : Prop := aheadKnownRow.holds Try.pinned (OpenSpec.ofChange aheadKnownWrong)

/-- 'catchpolelaw21.AheadMore': WHATEVER THE INPUT: true; the input reads as it did. -/
def aheadMoreSpec : ChangeSpec := { name := "aheadMore", fn := fun _ => fun
  | [d1, d2, d3, d4] => { results := [.lit (.bool true)], args := [d1, d2, d3, d4] }
  | _ => none }
def aheadMoreRow : OpenClaim := { program := "ythdonefmfgnilaa", sum := "1b3c4a192254bdb227d10d7ad2cadc1c715b98eb55cd3f059fb6dd1e0dce44d2", func := "catchpole/catchpolelaw21.AheadMore", spec := "aheadMore", unfollowed := true, recurses := true, loops := true, apart := false }
def AheadMoreSaid : Prop := aheadMoreRow.holds Try.pinned (OpenSpec.ofChange aheadMoreSpec)

/-- ITS FALSE NEIGHBOUR: 'it returns false'. Refute it at one input. -/
def aheadMoreWrong : ChangeSpec := { name := "aheadMore", fn := fun _ => fun
  | [d1, d2, d3, d4] => { results := [.lit (.bool false)], args := [d1, d2, d3, d4] }
  | _ => none }
def AheadMoreWrongFalsely : Prop := aheadMoreRow.holds Try.pinned (OpenSpec.ofChange aheadMoreWrong)

/-- 'catchpolelaw21.AheadWhole': WHATEVER THE INPUT: true; the input reads as it did. -/
def aheadWholeSpec : ChangeSpec := { name := "aheadWhole", fn := fun _ => fun
  | [d1, d2] => { results := [.lit (.bool true)], args := [d1, d2] }
  | _ => none }
def aheadWholeRow : OpenClaim := { program := "ythdonefmfgnilaa", sum := "1b3c4a192254bdb227d10d7ad2cadc1c715b98eb55cd3f059fb6dd1e0dce44d2", func := "catchpole/catchpolelaw21.AheadWhole", spec := "aheadWhole", unfollowed := true, recurses := true, loops := true, apart := false }
def AheadWholeSaid : Prop := aheadWholeRow.holds Try.pinned (OpenSpec.ofChange aheadWholeSpec)

/-- ITS FALSE NEIGHBOUR: 'it returns false'. Refute it at one input. -/
def aheadWholeWrong : ChangeSpec := { name := "aheadWhole", fn := fun _ => fun
  | [d1, d2] => { results := [.lit (.bool false)], args := [d1, d2] }
  | _ => none }
def AheadWholeWrongFalsely : Prop := aheadWholeRow.holds Try.pinned (OpenSpec.ofChange aheadWholeWrong)

/-- 'catchpolelaw21.AheadRows': WHATEVER THE INPUT: true; the input reads as it did. -/
def aheadRowsSpec : ChangeSpec := { name := "aheadRows", fn := fun _ => fun
  | [d1, d2, d3, d4, d5] => { results := [.lit (.bool true)], args := [d1, d2, d3, d4, d5] }
  | _ => none }
def aheadRowsRow : OpenClaim := { program := "ythdonefmfgnilaa", sum := "1b3c4a192254bdb227d10d7ad2cadc1c715b98eb55cd3f059fb6dd1e0dce44d2", func := "catchpole/catchpolelaw21.AheadRows", spec := "aheadRows", unfollowed := true, recurses := true, loops := true, apart := false }
def AheadRowsSaid : Prop := aheadRowsRow.holds Try.pinned (OpenSpec.ofChange aheadRowsSpec)

/-- ITS FALSE NEIGHBOUR: 'it returns false'. Refute it at one input. -/
def aheadRowsWrong : ChangeSpec := { name := "aheadRows", fn := fun _ => fun
  | [d1, d2, d3, d4, d5] => { results := [.lit (.bool false)], args := [d1, d2, d3, d4, d5] }
  | _ => none }
def AheadRowsWrongFalsely : Prop := aheadRowsRow.holds Try.pinned (OpenSpec.ofChange aheadRowsWrong)

/-- 'catchpolelaw15.EveryRows': WHATEVER THE INPUT: true; the input reads as it did. -/
def everyRowsSpec : ChangeSpec := { name := "everyRows", fn := fun _ => fun
  | [d1, d2, d3] => { results := [.lit (.bool true)], args := [d1, d2, d3] }
  | _ => none }
def everyRowsRow : OpenClaim := { program := "ythdonefmfgnilaa", sum := "1b3c4a192254bdb227d10d7ad2cadc1c715b98eb55cd3f059fb6dd1e0dce44d2", func := "catchpole/catchpolelaw15.EveryRows", spec := "everyRows", inPlace := ["internal/abi.NoEscape"], unfollowed := true, recurses := true, loops := true, apart := false }
def EveryRowsSaid : Prop := everyRowsRow.holds Try.pinned (OpenSpec.ofChange everyRowsSpec)

/-- ITS FALSE NEIGHBOUR: 'it returns false'. Refute it at one input. -/
def everyRowsWrong : ChangeSpec := { name := "everyRows", fn := fun _ => fun
  | [d1, d2, d3] => { results := [.lit (.bool false)], args := [d1, d2, d3] }
  | _ => none }
def EveryRowsWrongFalsely : Prop := everyRowsRow.holds Try.pinned (OpenSpec.ofChange everyRowsWrong)

/-- 'catchpolelaw15.EveryFull': WHATEVER THE INPUT: true; the input reads as it did. -/
def everyFullSpec : ChangeSpec := { name := "everyFull", fn := fun _ => fun
  | [d1, d2] => { results := [.lit (.bool true)], args := [d1, d2] }
  | _ => none }
def everyFullRow : OpenClaim := { program := "ythdonefmfgnilaa", sum := "1b3c4a192254bdb227d10d7ad2cadc1c715b98eb55cd3f059fb6dd1e0dce44d2", func := "catchpole/catchpolelaw15.EveryFull", spec := "everyFull", inPlace := ["internal/abi.NoEscape", "internal/bytealg.abigen_runtime_cmpstring"], unfollowed := true, recurses := true, loops := true, apart := false }
def EveryFullSaid : Prop := everyFullRow.holds Try.pinned (OpenSpec.ofChange everyFullSpec)

/-- ITS FALSE NEIGHBOUR: 'it returns false'. Refute it at one input. -/
def everyFullWrong : ChangeSpec := { name := "everyFull", fn := fun _ => fun
  | [d1, d2] => { results := [.lit (.bool false)], args := [d1, d2] }
  | _ => none }
def EveryFullWrongFalsely : Prop := everyFullRow.holds Try.pinned (OpenSpec.ofChange everyFullWrong)

/- THE SECOND FORM. 'bulk': how many values and letters a reading holds, each counted each time it is reached (what is shared counts as often as it is met; a slice's spare places count too). A statement '..UptoSaid' is the law's where the arguments, and the package variables that the reading takes, are together of bulk at most 1048576: NARROWER than '..Said'. Prove '..Said' where nothing that the law and all that it calls make is longer than what came in: it says more and counts as full. Else prove '..UptoSaid'. A law counts once. -/
mutual
def uptoBulk {H : Type} : DataW H → Nat
  | .lit (.string bytes) => bytes.length + 1
  | .lit _ => 1
  | .nil => 1
  | .ptr d => uptoBulk d + 1
  | .slice elems spare => uptoBulkAll elems + uptoBulkAll spare + 1
  | .agg parts => uptoBulkAll parts + 1
  | .iface _ d => uptoBulk d + 1
  | .map entries => uptoBulkEntries entries + 1
  | .held _ => 1
def uptoBulkAll {H : Type} : List (DataW H) → Nat
  | [] => 0
  | d :: r => uptoBulk d + uptoBulkAll r
def uptoBulkEntries {H : Type} : List (Lit × DataW H) → Nat
  | [] => 0
  | x :: r => uptoBulkEntry x + uptoBulkEntries r
def uptoBulkEntry {H : Type} : Lit × DataW H → Nat
  | (.string bytes, d) => bytes.length + uptoBulk d + 1
  | (_, d) => uptoBulk d + 1
 end
def uptoSmall : (H : Type) → List (DataW H) → Bool := fun _ ds => decide (uptoBulkAll ds ≤ 1048576)
def OpenSpec.upto (s : _root_.Go.ChangeSpec) : _root_.Go.OpenSpec := { _root_.Go.OpenSpec.ofChange s with cond := some uptoSmall }

/-- 'catchpolelaw16.DerivWord', WHERE WHAT IT READS IS OF BULK AT MOST 1048576: true; the input reads as it did. -/
def derivWordUptoRow : OpenClaim := { program := "ythdonefmfgnilaa", sum := "1b3c4a192254bdb227d10d7ad2cadc1c715b98eb55cd3f059fb6dd1e0dce44d2", func := "catchpole/catchpolelaw16.DerivWord", spec := "derivWord", unfollowed := true, recurses := true, loops := true, apart := false, narrowed := true }
def DerivWordUptoSaid : Prop := derivWordUptoRow.holds Try.pinned (OpenSpec.upto derivWordSpec)

/-- 'catchpolelaw16.DerivKnown', WHERE WHAT IT READS IS OF BULK AT MOST 1048576: true; the input reads as it did. -/
def derivKnownUptoRow : OpenClaim := { program := "ythdonefmfgnilaa", sum := "1b3c4a192254bdb227d10d7ad2cadc1c715b98eb55cd3f059fb6dd1e0dce44d2", func := "catchpole/catchpolelaw16.DerivKnown", spec := "derivKnown", unfollowed := true, recurses := true, apart := false, narrowed := true }
def DerivKnownUptoSaid : Prop := derivKnownUptoRow.holds Try.pinned (OpenSpec.upto derivKnownSpec)

/-- 'catchpolelaw16.DerivTidy', WHERE WHAT IT READS IS OF BULK AT MOST 1048576: true; the input reads as it did. -/
def derivTidyUptoRow : OpenClaim := { program := "ythdonefmfgnilaa", sum := "1b3c4a192254bdb227d10d7ad2cadc1c715b98eb55cd3f059fb6dd1e0dce44d2", func := "catchpole/catchpolelaw16.DerivTidy", spec := "derivTidy", unfollowed := true, recurses := true, loops := true, apart := false, narrowed := true }
def DerivTidyUptoSaid : Prop := derivTidyUptoRow.holds Try.pinned (OpenSpec.upto derivTidySpec)

/-- 'catchpolelaw16.DerivFirst', WHERE WHAT IT READS IS OF BULK AT MOST 1048576: true; the input reads as it did. -/
def derivFirstUptoRow : OpenClaim := { program := "ythdonefmfgnilaa", sum := "1b3c4a192254bdb227d10d7ad2cadc1c715b98eb55cd3f059fb6dd1e0dce44d2", func := "catchpole/catchpolelaw16.DerivFirst", spec := "derivFirst", unfollowed := true, recurses := true, loops := true, apart := false, narrowed := true }
def DerivFirstUptoSaid : Prop := derivFirstUptoRow.holds Try.pinned (OpenSpec.upto derivFirstSpec)

/-- 'catchpolelaw16.DerivLeft', WHERE WHAT IT READS IS OF BULK AT MOST 1048576: true; the input reads as it did. -/
def derivLeftUptoRow : OpenClaim := { program := "ythdonefmfgnilaa", sum := "1b3c4a192254bdb227d10d7ad2cadc1c715b98eb55cd3f059fb6dd1e0dce44d2", func := "catchpole/catchpolelaw16.DerivLeft", spec := "derivLeft", unfollowed := true, recurses := true, loops := true, apart := false, narrowed := true }
def DerivLeftUptoSaid : Prop := derivLeftUptoRow.holds Try.pinned (OpenSpec.upto derivLeftSpec)

/-- 'catchpolelaw21.AheadKnown', WHERE WHAT IT READS IS OF BULK AT MOST 1048576: true; the input reads as it did. -/
def aheadKnownUptoRow : OpenClaim := { program := "ythdonefmfgnilaa", sum := "1b3c4a192254bdb227d10d7ad2cadc1c715b98eb55cd3f059fb6dd1e0dce44d2", func := "catchpole/catchpolelaw21.AheadKnown", spec := "aheadKnown", unfollowed := true, recurses := true, apart := false, narrowed := true }
def AheadKnownUptoSaid : Prop := aheadKnownUptoRow.holds Try.pinned (OpenSpec.upto aheadKnownSpec)

/-- 'catchpolelaw21.AheadMore', WHERE WHAT IT READS IS OF BULK AT MOST 1048576: true; the input reads as it did. -/
def aheadMoreUptoRow : OpenClaim := { program := "ythdonefmfgnilaa", sum := "1b3c4a192254bdb227d10d7ad2cadc1c715b98eb55cd3f059fb6dd1e0dce44d2", func := "catchpole/catchpolelaw21.AheadMore", spec := "aheadMore", unfollowed := true, recurses := true, loops := true, apart := false, narrowed := true }
def AheadMoreUptoSaid : Prop := aheadMoreUptoRow.holds Try.pinned (OpenSpec.upto aheadMoreSpec)

/-- 'catchpolelaw21.AheadWhole', WHERE WHAT IT READS IS OF BULK AT MOST 1048576: true; the input reads as it did. -/
def aheadWholeUptoRow : OpenClaim := { program := "ythdonefmfgnilaa", sum := "1b3c4a192254bdb227d10d7ad2cadc1c715b98eb55cd3f059fb6dd1e0dce44d2", func := "catchpole/catchpolelaw21.AheadWhole", spec := "aheadWhole", unfollowed := true, recurses := true, loops := true, apart := false, narrowed := true }
def AheadWholeUptoSaid : Prop := aheadWholeUptoRow.holds Try.pinned (OpenSpec.upto aheadWholeSpec)

/-- 'catchpolelaw21.AheadRows', WHERE WHAT IT READS IS OF BULK AT MOST 1048576: true; the input reads as it did. -/
def aheadRowsUptoRow : OpenClaim := { program := "ythdonefmfgnilaa", sum := "1b3c4a192254bdb227d10d7ad2cadc1c715b98eb55cd3f059fb6dd1e0dce44d2", func := "catchpole/catchpolelaw21.AheadRows", spec := "aheadRows", unfollowed := true, recurses := true, loops := true, apart := false, narrowed := true }
def AheadRowsUptoSaid : Prop := aheadRowsUptoRow.holds Try.pinned (OpenSpec.upto aheadRowsSpec)

/-- 'catchpolelaw15.EveryRows', WHERE WHAT IT READS IS OF BULK AT MOST 1048576: true; the input reads as it did. -/
def everyRowsUptoRow : OpenClaim := { program := "ythdonefmfgnilaa", sum := "1b3c4a192254bdb227d10d7ad2cadc1c715b98eb55cd3f059fb6dd1e0dce44d2", func := "catchpole/catchpolelaw15.EveryRows", spec := "everyRows", inPlace := ["internal/abi.NoEscape"], unfollowed := true, recurses := true, loops := true, apart := false, narrowed := true }
def EveryRowsUptoSaid : Prop := everyRowsUptoRow.holds Try.pinned (OpenSpec.upto everyRowsSpec)

/-- 'catchpolelaw15.EveryFull', WHERE WHAT IT READS IS OF BULK AT MOST 1048576: true; the input reads as it did. -/
def everyFullUptoRow : OpenClaim := { program := "ythdonefmfgnilaa", sum := "1b3c4a192254bdb227d10d7ad2cadc1c715b98eb55cd3f059fb6dd1e0dce44d2", func := "catchpole/catchpolelaw15.EveryFull", spec := "everyFull", inPlace := ["internal/abi.NoEscape", "internal/bytealg.abigen_runtime_cmpstring"], unfollowed := true, recurses := true, loops := true, apart := false, narrowed := true }
def EveryFullUptoSaid : Prop := everyFullUptoRow.holds Try.pinned (OpenSpec.upto everyFullSpec)

end Rows
end Go.Proofs.Ythdonefmfgnilaa
