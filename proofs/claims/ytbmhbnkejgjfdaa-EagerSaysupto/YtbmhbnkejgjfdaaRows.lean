/-
  NARROWER THAN 'FOR EVERY INPUT', by the rows' own cells (each row's printed sentence says how): RankTotal: loops · RankParts: loops · RankSays: loops · RankBest: loops · EagerTotal: loops · EagerParts: loops · EagerSays: loops.
  DERIVED. THE GIVEN ROWS OF THIS SEAT. 9 by the template 'for every input the law returns true; each argument reads behind the call as it read before'; 0 by the template 'total and deterministic' (their statements: YtbmhbnkejgjfdaaTotals.lean).
  GIVEN WITH THE SEED: the statements are not yours to turn. If you find one false, say at which input.
  Laid BY PROGRAM, IN A SANDBOX (cutbox-rows.mjs): the forced cells as the released guide's own fill.sh prints them over the translation de9e155134301db0… (all of the seat's roots in one cut). By AI agents, Wed Nov 11 2026. No macro, syntax, notation, axiom, sorry.
-/
import Derived.Test.YtbmhbnkejgjfdaaChecked
import GoSem.Claim
import GoSem.ClaimJoined
import GoSem.ClaimMapViews
import Derived.JoinedTies
import Derived.KernelRfl
namespace Go.Proofs.Ytbmhbnkejgjfdaa
/- THE CELL 'sum', in the pinned program and in every row, IS THE sha256 OF THE DUMP (.gsa) THAT YtbmhbnkejgjfdaaProg.lean LOADS. Nothing in Lean hashes anything: it is a label: what it is worth is what the hold of that sum in a sandbox is worth. -/
noncomputable def Try.pinned : Pinned := { name := "ytbmhbnkejgjfdaa", sum := "de9e155134301db0223d52725fc06d51043552429d4c8862fd6a9543355bf7d0", checked := Try.checked }
namespace Rows
def none {H : Type} : Left H := { results := [], args := [] }

/-- 'catchpolelaw13.RankTotal': WHATEVER THE INPUT: true; the input reads as it did. -/
def rankTotalSpec : ChangeSpec := { name := "rankTotal", fn := fun _ => fun
  | [d1, d2, d3] => { results := [.lit (.bool true)], args := [d1, d2, d3] }
  | _ => none }
def rankTotalRow : OpenClaim := { program := "ytbmhbnkejgjfdaa", sum := "de9e155134301db0223d52725fc06d51043552429d4c8862fd6a9543355bf7d0", func := "catchpole/catchpolelaw13.RankTotal", spec := "rankTotal", recurses := true, loops := true, apart := false }
def RankTotalSaid : Prop := rankTotalRow.holds Try.pinned (OpenSpec.ofChange rankTotalSpec)

/-- ITS FALSE NEIGHBOUR: 'it returns false'. Refute it at one input. -/
def rankTotalWrong : ChangeSpec := { name := "rankTotal", fn := fun _ => fun
  | [d1, d2, d3] => { results := [.lit (.bool false)], args := [d1, d2, d3] }
  | _ => none }
def RankTotalWrongFalsely : Prop := rankTotalRow.holds Try.pinned (OpenSpec.ofChange rankTotalWrong)

/-- 'catchpolelaw13.RankParts': WHATEVER THE INPUT: true; the input reads as it did. -/
def rankPartsSpec : ChangeSpec := { name := "rankParts", fn := fun _ => fun
  | [d1, d2, d3] => { results := [.lit (.bool true)], args := [d1, d2, d3] }
  | _ => none }
def rankPartsRow : OpenClaim := { program := "ytbmhbnkejgjfdaa", sum := "de9e155134301db0223d52725fc06d51043552429d4c8862fd6a9543355bf7d0", func := "catchpole/catchpolelaw13.RankParts", spec := "rankParts", recurses := true, loops := true, apart := false }
def RankPartsSaid : Prop := rankPartsRow.holds Try.pinned (OpenSpec.ofChange rankPartsSpec)

/-- ITS FALSE NEIGHBOUR: 'it returns false'. Refute it at one input. -/
def rankPartsWrong : ChangeSpec := { name := "rankParts", fn := fun _ => fun
  | [d1, d2, d3] => { results := [.lit (.bool false)], args := [d1, d2, d3] }
  | _ => none }
def RankPartsWrongFalsely : Prop := rankPartsRow.holds Try.pinned (OpenSpec.ofChange rankPartsWrong)

/-- 'catchpolelaw13.RankKnown': WHATEVER THE INPUT: true; the input reads as it did. -/
def rankKnownSpec : ChangeSpec := { name := "rankKnown", fn := fun _ => fun
  | [] => { results := [.lit (.bool true)], args := [] }
  | _ => none }
def rankKnownRow : OpenClaim := { program := "ytbmhbnkejgjfdaa", sum := "de9e155134301db0223d52725fc06d51043552429d4c8862fd6a9543355bf7d0", func := "catchpole/catchpolelaw13.RankKnown", spec := "rankKnown", recurses := true, apart := false }
def RankKnownSaid : Prop := rankKnownRow.holds Try.pinned (OpenSpec.ofChange rankKnownSpec)

/-- ITS FALSE NEIGHBOUR: 'it returns false'. Refute it at one input. -/
def rankKnownWrong : ChangeSpec := { name := "rankKnown", fn := fun _ => fun
  | [] => { results := [.lit (.bool false)], args := [] }
  | _ => none }
def RankKnownWrongFalsely : Prop := rankKnownRow.holds Try.pinned (OpenSpec.ofChange rankKnownWrong)

/-- 'catchpolelaw13.RankSays': WHATEVER THE INPUT: true; the input reads as it did. -/
def rankSaysSpec : ChangeSpec := { name := "rankSays", fn := fun _ => fun
  | [d1, d2, d3] => { results := [.lit (.bool true)], args := [d1, d2, d3] }
  | _ => none }
def rankSaysRow : OpenClaim := { program := "ytbmhbnkejgjfdaa", sum := "de9e155134301db0223d52725fc06d51043552429d4c8862fd6a9543355bf7d0", func := "catchpole/catchpolelaw13.RankSays", spec := "rankSays", recurses := true, loops := true, apart := false }
def RankSaysSaid : Prop := rankSaysRow.holds Try.pinned (OpenSpec.ofChange rankSaysSpec)

/-- ITS FALSE NEIGHBOUR: 'it returns false'. Refute it at one input. -/
def rankSaysWrong : ChangeSpec := { name := "rankSays", fn := fun _ => fun
  | [d1, d2, d3] => { results := [.lit (.bool false)], args := [d1, d2, d3] }
  | _ => none }
def RankSaysWrongFalsely : Prop := rankSaysRow.holds Try.pinned (OpenSpec.ofChange rankSaysWrong)

/-- 'catchpolelaw13.RankBest': WHATEVER THE INPUT: true; the input reads as it did. -/
def rankBestSpec : ChangeSpec := { name := "rankBest", fn := fun _ => fun
  | [d1, d2] => { results := [.lit (.bool true)], args := [d1, d2] }
  | _ => none }
def rankBestRow : OpenClaim := { program := "ytbmhbnkejgjfdaa", sum := "de9e155134301db0223d52725fc06d51043552429d4c8862fd6a9543355bf7d0", func := "catchpole/catchpolelaw13.RankBest", spec := "rankBest", recurses := true, loops := true, apart := false }
def RankBestSaid : Prop := rankBestRow.holds Try.pinned (OpenSpec.ofChange rankBestSpec)

/-- ITS FALSE NEIGHBOUR: 'it returns false'. Refute it at one input. -/
def rankBestWrong : ChangeSpec := { name := "rankBest", fn := fun _ => fun
  | [d1, d2] => { results := [.lit (.bool false)], args := [d1, d2] }
  | _ => none }
def RankBestWrongFalsely : Prop := rankBestRow.holds Try.pinned (OpenSpec.ofChange rankBestWrong)

/-- 'catchpolelaw14.EagerTotal': WHATEVER THE INPUT: true; the input reads as it did. -/
def eagerTotalSpec : ChangeSpec := { name := "eagerTotal", fn := fun _ => fun
  | [d1, d2, d3] => { results := [.lit (.bool true)], args := [d1, d2, d3] }
  | _ => none }
def eagerTotalRow : OpenClaim := { program := "ytbmhbnkejgjfdaa", sum := "de9e155134301db0223d52725fc06d51043552429d4c8862fd6a9543355bf7d0", func := "catchpole/catchpolelaw14.EagerTotal", spec := "eagerTotal", inPlace := ["internal/abi.NoEscape", "internal/bytealg.abigen_runtime_cmpstring"], recurses := true, loops := true, apart := false }
def EagerTotalSaid : Prop := eagerTotalRow.holds Try.pinned (OpenSpec.ofChange eagerTotalSpec)

/-- ITS FALSE NEIGHBOUR: 'it returns false'. Refute it at one input. -/
def eagerTotalWrong : ChangeSpec := { name := "eagerTotal", fn := fun _ => fun
  | [d1, d2, d3] => { results := [.lit (.bool false)], args := [d1, d2, d3] }
  | _ => none }
def EagerTotalWrongFalsely : Prop := eagerTotalRow.holds Try.pinned (OpenSpec.ofChange eagerTotalWrong)

/-- 'catchpolelaw14.EagerParts': WHATEVER THE INPUT: true; the input reads as it did. -/
def eagerPartsSpec : ChangeSpec := { name := "eagerParts", fn := fun _ => fun
  | [d1, d2, d3] => { results := [.lit (.bool true)], args := [d1, d2, d3] }
  | _ => none }
def eagerPartsRow : OpenClaim := { program := "ytbmhbnkejgjfdaa", sum := "de9e155134301db0223d52725fc06d51043552429d4c8862fd6a9543355bf7d0", func := "catchpole/catchpolelaw14.EagerParts", spec := "eagerParts", inPlace := ["internal/abi.NoEscape", "internal/bytealg.abigen_runtime_cmpstring"], recurses := true, loops := true, apart := false }
def EagerPartsSaid : Prop := eagerPartsRow.holds Try.pinned (OpenSpec.ofChange eagerPartsSpec)

/-- ITS FALSE NEIGHBOUR: 'it returns false'. Refute it at one input. -/
def eagerPartsWrong : ChangeSpec := { name := "eagerParts", fn := fun _ => fun
  | [d1, d2, d3] => { results := [.lit (.bool false)], args := [d1, d2, d3] }
  | _ => none }
def EagerPartsWrongFalsely : Prop := eagerPartsRow.holds Try.pinned (OpenSpec.ofChange eagerPartsWrong)

/-- 'catchpolelaw14.EagerKnown': WHATEVER THE INPUT: true; the input reads as it did. -/
def eagerKnownSpec : ChangeSpec := { name := "eagerKnown", fn := fun _ => fun
  | [] => { results := [.lit (.bool true)], args := [] }
  | _ => none }
def eagerKnownRow : OpenClaim := { program := "ytbmhbnkejgjfdaa", sum := "de9e155134301db0223d52725fc06d51043552429d4c8862fd6a9543355bf7d0", func := "catchpole/catchpolelaw14.EagerKnown", spec := "eagerKnown", inPlace := ["internal/abi.NoEscape", "internal/bytealg.abigen_runtime_cmpstring"], recurses := true, apart := false }
def EagerKnownSaid : Prop := eagerKnownRow.holds Try.pinned (OpenSpec.ofChange eagerKnownSpec)

/-- ITS FALSE NEIGHBOUR: 'it returns false'. Refute it at one input. -/
def eagerKnownWrong : ChangeSpec := { name := "eagerKnown", fn := fun _ => fun
  | [] => { results := [.lit (.bool false)], args := [] }
  | _ => none }
def EagerKnownWrongFalsely : Prop := eagerKnownRow.holds Try.pinned (OpenSpec.ofChange eagerKnownWrong)

/-- 'catchpolelaw14.EagerSays': WHATEVER THE INPUT: true; the input reads as it did. -/
def eagerSaysSpec : ChangeSpec := { name := "eagerSays", fn := fun _ => fun
  | [d1, d2, d3] => { results := [.lit (.bool true)], args := [d1, d2, d3] }
  | _ => none }
def eagerSaysRow : OpenClaim := { program := "ytbmhbnkejgjfdaa", sum := "de9e155134301db0223d52725fc06d51043552429d4c8862fd6a9543355bf7d0", func := "catchpole/catchpolelaw14.EagerSays", spec := "eagerSays", inPlace := ["internal/abi.NoEscape", "internal/bytealg.abigen_runtime_cmpstring"], recurses := true, loops := true, apart := false }
def EagerSaysSaid : Prop := eagerSaysRow.holds Try.pinned (OpenSpec.ofChange eagerSaysSpec)

/-- ITS FALSE NEIGHBOUR: 'it returns false'. Refute it at one input. -/
def eagerSaysWrong : ChangeSpec := { name := "eagerSays", fn := fun _ => fun
  | [d1, d2, d3] => { results := [.lit (.bool false)], args := [d1, d2, d3] }
  | _ => none }
def EagerSaysWrongFalsely : Prop := eagerSaysRow.holds Try.pinned (OpenSpec.ofChange eagerSaysWrong)

/- THE SECOND FORM. 'bulk': how many values and letters a reading holds, each counted each time it is reached (what is shared counts as often as it is met; a slice's spare places count too). A statement '..UptoSaid' is the law's where the arguments, and the package variables that the reading takes, are together of bulk at most 1048576: NARROWER than '..Said'. Prove '..Said' where nothing that the law and all that it calls make is longer than what came in: it says more and counts as full. Else prove '..UptoSaid'. A law counts once. -/
mutual
def uptoBulk {H : Type} : DataW H → Nat
  | .lit (.string bytes) => bytes.length + 1
  | .lit _ => 1
  | .nil => 1
  | .ptr d => uptoBulk d + 1
  | .slice elems spare => uptoBulkAll elems + uptoBulkAll spare + 1
  | .agg parts => uptoBulkAll parts + 1
  | .iface _ d => uptoBulk d + 1
  | .map entries => uptoBulkEntries entries + 1
  | .held _ => 1
def uptoBulkAll {H : Type} : List (DataW H) → Nat
  | [] => 0
  | d :: r => uptoBulk d + uptoBulkAll r
def uptoBulkEntries {H : Type} : List (Lit × DataW H) → Nat
  | [] => 0
  | x :: r => uptoBulkEntry x + uptoBulkEntries r
def uptoBulkEntry {H : Type} : Lit × DataW H → Nat
  | (.string bytes, d) => bytes.length + uptoBulk d + 1
  | (_, d) => uptoBulk d + 1
 end
def uptoSmall : (H : Type) → List (DataW H) → Bool := fun _ ds => decide (uptoBulkAll ds ≤ 1048576)
def OpenSpec.upto (s : _root_.Go.ChangeSpec) : _root_.Go.OpenSpec := { _root_.Go.OpenSpec.ofChange s with cond := some uptoSmall }

/-- 'catchpolelaw13.RankTotal', WHERE WHAT IT READS IS OF BULK AT MOST 1048576: true; the input reads as it did. -/
def rankTotalUptoRow : OpenClaim := { program := "ytbmhbnkejgjfdaa", sum := "de9e155134301db0223d52725fc06d51043552429d4c8862fd6a9543355bf7d0", func := "catchpole/catchpolelaw13.RankTotal", spec := "rankTotal", recurses := true, loops := true, apart := false, narrowed := true }
def RankTotalUptoSaid : Prop := rankTotalUptoRow.holds Try.pinned (OpenSpec.upto rankTotalSpec)

/-- 'catchpolelaw13.RankParts', WHERE WHAT IT READS IS OF BULK AT MOST 1048576: true; the input reads as it did. -/
def rankPartsUptoRow : OpenClaim := { program := "ytbmhbnkejgjfdaa", sum := "de9e155134301db0223d52725fc06d51043552429d4c8862fd6a9543355bf7d0", func := "catchpole/catchpolelaw13.RankParts", spec := "rankParts", recurses := true, loops := true, apart := false, narrowed := true }
def RankPartsUptoSaid : Prop := rankPartsUptoRow.holds Try.pinned (OpenSpec.upto rankPartsSpec)

/-- 'catchpolelaw13.RankKnown', WHERE WHAT IT READS IS OF BULK AT MOST 1048576: true; the input reads as it did. -/
def rankKnownUptoRow : OpenClaim := { program := "ytbmhbnkejgjfdaa", sum := "de9e155134301db0223d52725fc06d51043552429d4c8862fd6a9543355bf7d0", func := "catchpole/catchpolelaw13.RankKnown", spec := "rankKnown", recurses := true, apart := false, narrowed := true }
def RankKnownUptoSaid : Prop := rankKnownUptoRow.holds Try.pinned (OpenSpec.upto rankKnownSpec)

/-- 'catchpolelaw13.RankSays', WHERE WHAT IT READS IS OF BULK AT MOST 1048576: true; the input reads as it did. -/
def rankSaysUptoRow : OpenClaim := { program := "ytbmhbnkejgjfdaa", sum := "de9e155134301db0223d52725fc06d51043552429d4c8862fd6a9543355bf7d0", func := "catchpole/catchpolelaw13.RankSays", spec := "rankSays", recurses := true, loops := true, apart := false, narrowed := true }
def RankSaysUptoSaid : Prop := rankSaysUptoRow.holds Try.pinned (OpenSpec.upto rankSaysSpec)

/-- 'catchpolelaw13.RankBest', WHERE WHAT IT READS IS OF BULK AT MOST 1048576: true; the input reads as it did. -/
def rankBestUptoRow : OpenClaim := { program := "ytbmhbnkejgjfdaa", sum := "de9e155134301db0223d52725fc06d51043552429d4c8862fd6a9543355bf7d0", func := "catchpole/catchpolelaw13.RankBest", spec := "rankBest", recurses := true, loops := true, apart := false, narrowed := true }
def RankBestUptoSaid : Prop := rankBestUptoRow.holds Try.pinned (OpenSpec.upto rankBestSpec)

/-- 'catchpolelaw14.EagerTotal', WHERE WHAT IT READS IS OF BULK AT MOST 1048576: true; the input reads as it did. -/
def eagerTotalUptoRow : OpenClaim := { program := "ytbmhbnkejgjfdaa", sum := "de9e155134301db0223d52725fc06d51043552429d4c8862fd6a9543355bf7d0", func := "catchpole/catchpolelaw14.EagerTotal", spec := "eagerTotal", inPlace := ["internal/abi.NoEscape", "internal/bytealg.abigen_runtime_cmpstring"], recurses := true, loops := true, apart := false, narrowed := true }
def EagerTotalUptoSaid : Prop := eagerTotalUptoRow.holds Try.pinned (OpenSpec.upto eagerTotalSpec)

/-- 'catchpolelaw14.EagerParts', WHERE WHAT IT READS IS OF BULK AT MOST 1048576: true; the input reads as it did. -/
def eagerPartsUptoRow : OpenClaim := { program := "ytbmhbnkejgjfdaa", sum := "de9e155134301db0223d52725fc06d51043552429d4c8862fd6a9543355bf7d0", func := "catchpole/catchpolelaw14.EagerParts", spec := "eagerParts", inPlace := ["internal/abi.NoEscape", "internal/bytealg.abigen_runtime_cmpstring"], recurses := true, loops := true, apart := false, narrowed := true }
def EagerPartsUptoSaid : Prop := eagerPartsUptoRow.holds Try.pinned (OpenSpec.upto eagerPartsSpec)

/-- 'catchpolelaw14.EagerKnown', WHERE WHAT IT READS IS OF BULK AT MOST 1048576: true; the input reads as it did. -/
def eagerKnownUptoRow : OpenClaim := { program := "ytbmhbnkejgjfdaa", sum := "de9e155134301db0223d52725fc06d51043552429d4c8862fd6a9543355bf7d0", func := "catchpole/catchpolelaw14.EagerKnown", spec := "eagerKnown", inPlace := ["internal/abi.NoEscape", "internal/bytealg.abigen_runtime_cmpstring"], recurses := true, apart := false, narrowed := true }
def EagerKnownUptoSaid : Prop := eagerKnownUptoRow.holds Try.pinned (OpenSpec.upto eagerKnownSpec)

/-- 'catchpolelaw14.EagerSays', WHERE WHAT IT READS IS OF BULK AT MOST 1048576: true; the input reads as it did. -/
def eagerSaysUptoRow : OpenClaim := { program := "ytbmhbnkejgjfdaa", sum := "de9e155134301db0223d52725fc06d51043552429d4c8862fd6a9543355bf7d0", func := "catchpole/catchpolelaw14.EagerSays", spec := "eagerSays", inPlace := ["internal/abi.NoEscape", "internal/bytealg.abigen_runtime_cmpstring"], recurses := true, loops := true, apart := false, narrowed := true }
def EagerSaysUptoSaid : Prop := eagerSaysUptoRow.holds Try.pinned (OpenSpec.upto eagerSaysSpec)

end Rows
end Go.Proofs.Ytbmhbnkejgjfdaa
