/-
  NARROWER THAN 'FOR EVERY INPUT', by the rows' own cells (each row's printed sentence says how): TreeSays: loops · TreeParts: loops.
  DERIVED. THE GIVEN ROWS OF THIS SEAT. 11 by the template 'for every input the law returns true; each argument reads behind the call as it read before'; 0 by the template 'total and deterministic' (their statements: YtifnlmfhbepjcaaTotals.lean).
  GIVEN WITH THE SEED: the statements are not yours to turn. If you find one false, say at which input.
  Laid BY PROGRAM, IN A SANDBOX (cutbox-rows.mjs): the forced cells as the released guide's own fill.sh prints them over the translation 4b277871a549f575… (all of the seat's roots in one cut). By AI agents, Wed Nov 11 2026. No macro, syntax, notation, axiom, sorry.
-/
import Derived.Test.YtifnlmfhbepjcaaChecked
import GoSem.Claim
import GoSem.ClaimJoined
import GoSem.ClaimMapViews
import Derived.JoinedTies
import Derived.KernelRfl
namespace Go.Proofs.Ytifnlmfhbepjcaa
/- THE CELL 'sum', in the pinned program and in every row, IS THE sha256 OF THE DUMP (.gsa) THAT YtifnlmfhbepjcaaProg.lean LOADS. Nothing in Lean hashes anything: it is a label: what it is worth is what the hold of that sum in a sandbox is worth. -/
noncomputable def Try.pinned : Pinned := { name := "ytifnlmfhbepjcaa", sum := "4b277871a549f575d4ec89881a652a182bac0198ecca209a2aaf0706bbf85569", checked := Try.checked }
namespace Rows
def none {H : Type} : Left H := { results := [], args := [] }

/-- 'catchpolelaw1.BytesetRuns': WHATEVER THE INPUT: true; the input reads as it did. -/
def bytesetRunsSpec : ChangeSpec := { name := "bytesetRuns", fn := fun _ => fun
  | [d] => { results := [.lit (.bool true)], args := [d] }
  | _ => none }
def bytesetRunsRow : OpenClaim := { program := "ytifnlmfhbepjcaa", sum := "4b277871a549f575d4ec89881a652a182bac0198ecca209a2aaf0706bbf85569", func := "catchpole/catchpolelaw1.BytesetRuns", spec := "bytesetRuns", plainKeys := false, apart := false }
def BytesetRunsSaid : Prop := bytesetRunsRow.holds Try.pinned (OpenSpec.ofChange bytesetRunsSpec)

/-- ITS FALSE NEIGHBOUR: 'it returns false'. Refute it at one input. -/
def bytesetRunsWrong : ChangeSpec := { name := "bytesetRuns", fn := fun _ => fun
  | [d] => { results := [.lit (.bool false)], args := [d] }
  | _ => none }
def BytesetRunsWrongFalsely : Prop := bytesetRunsRow.holds Try.pinned (OpenSpec.ofChange bytesetRunsWrong)

/-- 'catchpolelaw1.BytesetList': WHATEVER THE INPUT: true; the input reads as it did. -/
def bytesetListSpec : ChangeSpec := { name := "bytesetList", fn := fun _ => fun
  | [d1, d2] => { results := [.lit (.bool true)], args := [d1, d2] }
  | _ => none }
def bytesetListRow : OpenClaim := { program := "ytifnlmfhbepjcaa", sum := "4b277871a549f575d4ec89881a652a182bac0198ecca209a2aaf0706bbf85569", func := "catchpole/catchpolelaw1.BytesetList", spec := "bytesetList", plainKeys := false, apart := false }
def BytesetListSaid : Prop := bytesetListRow.holds Try.pinned (OpenSpec.ofChange bytesetListSpec)

/-- ITS FALSE NEIGHBOUR: 'it returns false'. Refute it at one input. -/
def bytesetListWrong : ChangeSpec := { name := "bytesetList", fn := fun _ => fun
  | [d1, d2] => { results := [.lit (.bool false)], args := [d1, d2] }
  | _ => none }
def BytesetListWrongFalsely : Prop := bytesetListRow.holds Try.pinned (OpenSpec.ofChange bytesetListWrong)

/-- 'catchpolelaw1.BytesetKnown': WHATEVER THE INPUT: true; the input reads as it did. -/
def bytesetKnownSpec : ChangeSpec := { name := "bytesetKnown", fn := fun _ => fun
  | [] => { results := [.lit (.bool true)], args := [] }
  | _ => none }
def bytesetKnownRow : OpenClaim := { program := "ytifnlmfhbepjcaa", sum := "4b277871a549f575d4ec89881a652a182bac0198ecca209a2aaf0706bbf85569", func := "catchpole/catchpolelaw1.BytesetKnown", spec := "bytesetKnown", inPlace := ["internal/bytealg.Compare"], plainKeys := false, apart := false }
def BytesetKnownSaid : Prop := bytesetKnownRow.holds Try.pinned (OpenSpec.ofChange bytesetKnownSpec)

/-- ITS FALSE NEIGHBOUR: 'it returns false'. Refute it at one input. -/
def bytesetKnownWrong : ChangeSpec := { name := "bytesetKnown", fn := fun _ => fun
  | [] => { results := [.lit (.bool false)], args := [] }
  | _ => none }
def BytesetKnownWrongFalsely : Prop := bytesetKnownRow.holds Try.pinned (OpenSpec.ofChange bytesetKnownWrong)

/-- 'catchpolelaw1.BytesetLaws': WHATEVER THE INPUT: true; the input reads as it did. -/
def bytesetLawsSpec : ChangeSpec := { name := "bytesetLaws", fn := fun _ => fun
  | [d1, d2, d3] => { results := [.lit (.bool true)], args := [d1, d2, d3] }
  | _ => none }
def bytesetLawsRow : OpenClaim := { program := "ytifnlmfhbepjcaa", sum := "4b277871a549f575d4ec89881a652a182bac0198ecca209a2aaf0706bbf85569", func := "catchpole/catchpolelaw1.BytesetLaws", spec := "bytesetLaws", inPlace := ["internal/bytealg.Compare"], plainKeys := false, apart := false }
def BytesetLawsSaid : Prop := bytesetLawsRow.holds Try.pinned (OpenSpec.ofChange bytesetLawsSpec)

/-- ITS FALSE NEIGHBOUR: 'it returns false'. Refute it at one input. -/
def bytesetLawsWrong : ChangeSpec := { name := "bytesetLaws", fn := fun _ => fun
  | [d1, d2, d3] => { results := [.lit (.bool false)], args := [d1, d2, d3] }
  | _ => none }
def BytesetLawsWrongFalsely : Prop := bytesetLawsRow.holds Try.pinned (OpenSpec.ofChange bytesetLawsWrong)

/-- 'catchpolelaw1.BytesetSays': WHATEVER THE INPUT: true; the input reads as it did. -/
def bytesetSaysSpec : ChangeSpec := { name := "bytesetSays", fn := fun _ => fun
  | [d1, d2, d3, d4, d5] => { results := [.lit (.bool true)], args := [d1, d2, d3, d4, d5] }
  | _ => none }
def bytesetSaysRow : OpenClaim := { program := "ytifnlmfhbepjcaa", sum := "4b277871a549f575d4ec89881a652a182bac0198ecca209a2aaf0706bbf85569", func := "catchpole/catchpolelaw1.BytesetSays", spec := "bytesetSays", inPlace := ["internal/bytealg.Compare"], plainKeys := false, apart := false }
def BytesetSaysSaid : Prop := bytesetSaysRow.holds Try.pinned (OpenSpec.ofChange bytesetSaysSpec)

/-- ITS FALSE NEIGHBOUR: 'it returns false'. Refute it at one input. -/
def bytesetSaysWrong : ChangeSpec := { name := "bytesetSays", fn := fun _ => fun
  | [d1, d2, d3, d4, d5] => { results := [.lit (.bool false)], args := [d1, d2, d3, d4, d5] }
  | _ => none }
def BytesetSaysWrongFalsely : Prop := bytesetSaysRow.holds Try.pinned (OpenSpec.ofChange bytesetSaysWrong)

/-- 'catchpolelaw2.ClassParts': WHATEVER THE INPUT: true; the input reads as it did. -/
def classPartsSpec : ChangeSpec := { name := "classParts", fn := fun _ => fun
  | [d] => { results := [.lit (.bool true)], args := [d] }
  | _ => none }
def classPartsRow : OpenClaim := { program := "ytifnlmfhbepjcaa", sum := "4b277871a549f575d4ec89881a652a182bac0198ecca209a2aaf0706bbf85569", func := "catchpole/catchpolelaw2.ClassParts", spec := "classParts", unfollowed := true, recurses := true, plainKeys := false, apart := false }
def ClassPartsSaid : Prop := classPartsRow.holds Try.pinned (OpenSpec.ofChange classPartsSpec)

/-- ITS FALSE NEIGHBOUR: 'it returns false'. Refute it at one input. -/
def classPartsWrong : ChangeSpec := { name := "classParts", fn := fun _ => fun
  | [d] => { results := [.lit (.bool false)], args := [d] }
  | _ => none }
def ClassPartsWrongFalsely : Prop := classPartsRow.holds Try.pinned (OpenSpec.ofChange classPartsWrong)

/-- 'catchpolelaw2.ClassSays': WHATEVER THE INPUT: true; the input reads as it did. -/
def classSaysSpec : ChangeSpec := { name := "classSays", fn := fun _ => fun
  | [d1, d2, d3] => { results := [.lit (.bool true)], args := [d1, d2, d3] }
  | _ => none }
def classSaysRow : OpenClaim := { program := "ytifnlmfhbepjcaa", sum := "4b277871a549f575d4ec89881a652a182bac0198ecca209a2aaf0706bbf85569", func := "catchpole/catchpolelaw2.ClassSays", spec := "classSays", unfollowed := true, recurses := true, plainKeys := false, apart := false }
def ClassSaysSaid : Prop := classSaysRow.holds Try.pinned (OpenSpec.ofChange classSaysSpec)

/-- ITS FALSE NEIGHBOUR: 'it returns false'. Refute it at one input. -/
def classSaysWrong : ChangeSpec := { name := "classSays", fn := fun _ => fun
  | [d1, d2, d3] => { results := [.lit (.bool false)], args := [d1, d2, d3] }
  | _ => none }
def ClassSaysWrongFalsely : Prop := classSaysRow.holds Try.pinned (OpenSpec.ofChange classSaysWrong)

/-- 'catchpolelaw2.ClassKnown': WHATEVER THE INPUT: true; the input reads as it did. -/
def classKnownSpec : ChangeSpec := { name := "classKnown", fn := fun _ => fun
  | [] => { results := [.lit (.bool true)], args := [] }
  | _ => none }
def classKnownRow : OpenClaim := { program := "ytifnlmfhbepjcaa", sum := "4b277871a549f575d4ec89881a652a182bac0198ecca209a2aaf0706bbf85569", func := "catchpole/catchpolelaw2.ClassKnown", spec := "classKnown", unfollowed := true, recurses := true, plainKeys := false, apart := false }
def ClassKnownSaid : Prop := classKnownRow.holds Try.pinned (OpenSpec.ofChange classKnownSpec)

/-- ITS FALSE NEIGHBOUR: 'it returns false'. Refute it at one input. -/
def classKnownWrong : ChangeSpec := { name := "classKnown", fn := fun _ => fun
  | [] => { results := [.lit (.bool false)], args := [] }
  | _ => none }
def ClassKnownWrongFalsely : Prop := classKnownRow.holds Try.pinned (OpenSpec.ofChange classKnownWrong)

/-- 'catchpolelaw5.TreeKnown': WHATEVER THE INPUT: true; the input reads as it did. -/
def treeKnownSpec : ChangeSpec := { name := "treeKnown", fn := fun _ => fun
  | [] => { results := [.lit (.bool true)], args := [] }
  | _ => none }
def treeKnownRow : OpenClaim := { program := "ytifnlmfhbepjcaa", sum := "4b277871a549f575d4ec89881a652a182bac0198ecca209a2aaf0706bbf85569", func := "catchpole/catchpolelaw5.TreeKnown", spec := "treeKnown", unfollowed := true, recurses := true, plainKeys := false, apart := false }
def TreeKnownSaid : Prop := treeKnownRow.holds Try.pinned (OpenSpec.ofChange treeKnownSpec)

/-- ITS FALSE NEIGHBOUR: 'it returns false'. Refute it at one input. -/
def treeKnownWrong : ChangeSpec := { name := "treeKnown", fn := fun _ => fun
  | [] => { results := [.lit (.bool false)], args := [] }
  | _ => none }
def TreeKnownWrongFalsely : Prop := treeKnownRow.holds Try.pinned (OpenSpec.ofChange treeKnownWrong)

/-- 'catchpolelaw5.TreeSays': WHATEVER THE INPUT: true; the input reads as it did. -/
def treeSaysSpec : ChangeSpec := { name := "treeSays", fn := fun _ => fun
  | [d1, d2] => { results := [.lit (.bool true)], args := [d1, d2] }
  | _ => none }
def treeSaysRow : OpenClaim := { program := "ytifnlmfhbepjcaa", sum := "4b277871a549f575d4ec89881a652a182bac0198ecca209a2aaf0706bbf85569", func := "catchpole/catchpolelaw5.TreeSays", spec := "treeSays", unfollowed := true, recurses := true, loops := true, plainKeys := false, apart := false }
def TreeSaysSaid : Prop := treeSaysRow.holds Try.pinned (OpenSpec.ofChange treeSaysSpec)

/-- ITS FALSE NEIGHBOUR: 'it returns false'. Refute it at one input. -/
def treeSaysWrong : ChangeSpec := { name := "treeSays", fn := fun _ => fun
  | [d1, d2] => { results := [.lit (.bool false)], args := [d1, d2] }
  | _ => none }
def TreeSaysWrongFalsely : Prop := treeSaysRow.holds Try.pinned (OpenSpec.ofChange treeSaysWrong)

/-- 'catchpolelaw5.TreeParts': WHATEVER THE INPUT: true; the input reads as it did. -/
def treePartsSpec : ChangeSpec := { name := "treeParts", fn := fun _ => fun
  | [d] => { results := [.lit (.bool true)], args := [d] }
  | _ => none }
def treePartsRow : OpenClaim := { program := "ytifnlmfhbepjcaa", sum := "4b277871a549f575d4ec89881a652a182bac0198ecca209a2aaf0706bbf85569", func := "catchpole/catchpolelaw5.TreeParts", spec := "treeParts", unfollowed := true, recurses := true, loops := true, plainKeys := false, apart := false }
def TreePartsSaid : Prop := treePartsRow.holds Try.pinned (OpenSpec.ofChange treePartsSpec)

/-- ITS FALSE NEIGHBOUR: 'it returns false'. Refute it at one input. -/
def treePartsWrong : ChangeSpec := { name := "treeParts", fn := fun _ => fun
  | [d] => { results := [.lit (.bool false)], args := [d] }
  | _ => none }
def TreePartsWrongFalsely : Prop := treePartsRow.holds Try.pinned (OpenSpec.ofChange treePartsWrong)

/- THE SECOND FORM. 'bulk': how many values and letters a reading holds, each counted each time it is reached (what is shared counts as often as it is met; a slice's spare places count too). A statement '..UptoSaid' is the law's where the arguments, and the package variables that the reading takes, are together of bulk at most 1048576: NARROWER than '..Said'. Prove '..Said' where nothing that the law and all that it calls make is longer than what came in: it says more and counts as full. Else prove '..UptoSaid'. A law counts once. -/
mutual
def uptoBulk {H : Type} : DataW H → Nat
  | .lit (.string bytes) => bytes.length + 1
  | .lit _ => 1
  | .nil => 1
  | .ptr d => uptoBulk d + 1
  | .slice elems spare => uptoBulkAll elems + uptoBulkAll spare + 1
  | .agg parts => uptoBulkAll parts + 1
  | .iface _ d => uptoBulk d + 1
  | .map entries => uptoBulkEntries entries + 1
  | .held _ => 1
def uptoBulkAll {H : Type} : List (DataW H) → Nat
  | [] => 0
  | d :: r => uptoBulk d + uptoBulkAll r
def uptoBulkEntries {H : Type} : List (Lit × DataW H) → Nat
  | [] => 0
  | x :: r => uptoBulkEntry x + uptoBulkEntries r
def uptoBulkEntry {H : Type} : Lit × DataW H → Nat
  | (.string bytes, d) => bytes.length + uptoBulk d + 1
  | (_, d) => uptoBulk d + 1
 end
def uptoSmall : (H : Type) → List (DataW H) → Bool := fun _ ds => decide (uptoBulkAll ds ≤ 1048576)
def OpenSpec.upto (s : _root_.Go.ChangeSpec) : _root_.Go.OpenSpec := { _root_.Go.OpenSpec.ofChange s with cond := some uptoSmall }

/-- 'catchpolelaw1.BytesetRuns', WHERE WHAT IT READS IS OF BULK AT MOST 1048576: true; the input reads as it did. -/
def bytesetRunsUptoRow : OpenClaim := { program := "ytifnlmfhbepjcaa", sum := "4b277871a549f575d4ec89881a652a182bac0198ecca209a2aaf0706bbf85569", func := "catchpole/catchpolelaw1.BytesetRuns", spec := "bytesetRuns", plainKeys := false, apart := false, narrowed := true }
def BytesetRunsUptoSaid : Prop := bytesetRunsUptoRow.holds Try.pinned (OpenSpec.upto bytesetRunsSpec)

/-- 'catchpolelaw1.BytesetList', WHERE WHAT IT READS IS OF BULK AT MOST 1048576: true; the input reads as it did. -/
def bytesetListUptoRow : OpenClaim := { program := "ytifnlmfhbepjcaa", sum := "4b277871a549f575d4ec89881a652a182bac0198ecca209a2aaf0706bbf85569", func := "catchpole/catchpolelaw1.BytesetList", spec := "bytesetList", plainKeys := false, apart := false, narrowed := true }
def BytesetListUptoSaid : Prop := bytesetListUptoRow.holds Try.pinned (OpenSpec.upto bytesetListSpec)

/-- 'catchpolelaw1.BytesetKnown', WHERE WHAT IT READS IS OF BULK AT MOST 1048576: true; the input reads as it did. -/
def bytesetKnownUptoRow : OpenClaim := { program := "ytifnlmfhbepjcaa", sum := "4b277871a549f575d4ec89881a652a182bac0198ecca209a2aaf0706bbf85569", func := "catchpole/catchpolelaw1.BytesetKnown", spec := "bytesetKnown", inPlace := ["internal/bytealg.Compare"], plainKeys := false, apart := false, narrowed := true }
def BytesetKnownUptoSaid : Prop := bytesetKnownUptoRow.holds Try.pinned (OpenSpec.upto bytesetKnownSpec)

/-- 'catchpolelaw1.BytesetLaws', WHERE WHAT IT READS IS OF BULK AT MOST 1048576: true; the input reads as it did. -/
def bytesetLawsUptoRow : OpenClaim := { program := "ytifnlmfhbepjcaa", sum := "4b277871a549f575d4ec89881a652a182bac0198ecca209a2aaf0706bbf85569", func := "catchpole/catchpolelaw1.BytesetLaws", spec := "bytesetLaws", inPlace := ["internal/bytealg.Compare"], plainKeys := false, apart := false, narrowed := true }
def BytesetLawsUptoSaid : Prop := bytesetLawsUptoRow.holds Try.pinned (OpenSpec.upto bytesetLawsSpec)

/-- 'catchpolelaw1.BytesetSays', WHERE WHAT IT READS IS OF BULK AT MOST 1048576: true; the input reads as it did. -/
def bytesetSaysUptoRow : OpenClaim := { program := "ytifnlmfhbepjcaa", sum := "4b277871a549f575d4ec89881a652a182bac0198ecca209a2aaf0706bbf85569", func := "catchpole/catchpolelaw1.BytesetSays", spec := "bytesetSays", inPlace := ["internal/bytealg.Compare"], plainKeys := false, apart := false, narrowed := true }
def BytesetSaysUptoSaid : Prop := bytesetSaysUptoRow.holds Try.pinned (OpenSpec.upto bytesetSaysSpec)

/-- 'catchpolelaw2.ClassParts', WHERE WHAT IT READS IS OF BULK AT MOST 1048576: true; the input reads as it did. -/
def classPartsUptoRow : OpenClaim := { program := "ytifnlmfhbepjcaa", sum := "4b277871a549f575d4ec89881a652a182bac0198ecca209a2aaf0706bbf85569", func := "catchpole/catchpolelaw2.ClassParts", spec := "classParts", unfollowed := true, recurses := true, plainKeys := false, apart := false, narrowed := true }
def ClassPartsUptoSaid : Prop := classPartsUptoRow.holds Try.pinned (OpenSpec.upto classPartsSpec)

/-- 'catchpolelaw2.ClassSays', WHERE WHAT IT READS IS OF BULK AT MOST 1048576: true; the input reads as it did. -/
def classSaysUptoRow : OpenClaim := { program := "ytifnlmfhbepjcaa", sum := "4b277871a549f575d4ec89881a652a182bac0198ecca209a2aaf0706bbf85569", func := "catchpole/catchpolelaw2.ClassSays", spec := "classSays", unfollowed := true, recurses := true, plainKeys := false, apart := false, narrowed := true }
def ClassSaysUptoSaid : Prop := classSaysUptoRow.holds Try.pinned (OpenSpec.upto classSaysSpec)

/-- 'catchpolelaw2.ClassKnown', WHERE WHAT IT READS IS OF BULK AT MOST 1048576: true; the input reads as it did. -/
def classKnownUptoRow : OpenClaim := { program := "ytifnlmfhbepjcaa", sum := "4b277871a549f575d4ec89881a652a182bac0198ecca209a2aaf0706bbf85569", func := "catchpole/catchpolelaw2.ClassKnown", spec := "classKnown", unfollowed := true, recurses := true, plainKeys := false, apart := false, narrowed := true }
def ClassKnownUptoSaid : Prop := classKnownUptoRow.holds Try.pinned (OpenSpec.upto classKnownSpec)

/-- 'catchpolelaw5.TreeKnown', WHERE WHAT IT READS IS OF BULK AT MOST 1048576: true; the input reads as it did. -/
def treeKnownUptoRow : OpenClaim := { program := "ytifnlmfhbepjcaa", sum := "4b277871a549f575d4ec89881a652a182bac0198ecca209a2aaf0706bbf85569", func := "catchpole/catchpolelaw5.TreeKnown", spec := "treeKnown", unfollowed := true, recurses := true, plainKeys := false, apart := false, narrowed := true }
def TreeKnownUptoSaid : Prop := treeKnownUptoRow.holds Try.pinned (OpenSpec.upto treeKnownSpec)

/-- 'catchpolelaw5.TreeSays', WHERE WHAT IT READS IS OF BULK AT MOST 1048576: true; the input reads as it did. -/
def treeSaysUptoRow : OpenClaim := { program := "ytifnlmfhbepjcaa", sum := "4b277871a549f575d4ec89881a652a182bac0198ecca209a2aaf0706bbf85569", func := "catchpole/catchpolelaw5.TreeSays", spec := "treeSays", unfollowed := true, recurses := true, loops := true, plainKeys := false, apart := false, narrowed := true }
def TreeSaysUptoSaid : Prop := treeSaysUptoRow.holds Try.pinned (OpenSpec.upto treeSaysSpec)

/-- 'catchpolelaw5.TreeParts', WHERE WHAT IT READS IS OF BULK AT MOST 1048576: true; the input reads as it did. -/
def treePartsUptoRow : OpenClaim := { program := "ytifnlmfhbepjcaa", sum := "4b277871a549f575d4ec89881a652a182bac0198ecca209a2aaf0706bbf85569", func := "catchpole/catchpolelaw5.TreeParts", spec := "treeParts", unfollowed := true, recurses := true, loops := true, plainKeys := false, apart := false, narrowed := true }
def TreePartsUptoSaid : Prop := treePartsUptoRow.holds Try.pinned (OpenSpec.upto treePartsSpec)

end Rows
end Go.Proofs.Ytifnlmfhbepjcaa
