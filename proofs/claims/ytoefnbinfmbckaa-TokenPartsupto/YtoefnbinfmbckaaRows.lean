/-
  No cell of these rows narrows 'for every input' (looked for: loops, veiled, ifaces, maps, wideKeys, modest, calm, conditions, laid).
  DERIVED. THE GIVEN ROWS OF THIS SEAT. 4 by the template 'for every input the law returns true; each argument reads behind the call as it read before'; 0 by the template 'total and deterministic' (their statements: YtoefnbinfmbckaaTotals.lean).
  GIVEN WITH THE SEED: the statements are not yours to turn. If you find one false, say at which input.
  Laid BY PROGRAM, IN A SANDBOX (cutbox-rows.mjs): the forced cells as the released guide's own fill.sh prints them over the translation 8fd832f6f8815e5e… (all of the seat's roots in one cut). By AI agents, Wed Nov 11 2026. No macro, syntax, notation, axiom, sorry.
-/
import Derived.Test.YtoefnbinfmbckaaChecked
import GoSem.Claim
import GoSem.ClaimJoined
import GoSem.ClaimMapViews
import Derived.JoinedTies
import Derived.KernelRfl
namespace Go.Proofs.Ytoefnbinfmbckaa
/- THE CELL 'sum', in the pinned program and in every row, IS THE sha256 OF THE DUMP (.gsa) THAT YtoefnbinfmbckaaProg.lean LOADS. Nothing in Lean hashes anything: it is a label: what it is worth is what the hold of that sum in a sandbox is worth. -/
noncomputable def Try.pinned : Pinned := { name := "ytoefnbinfmbckaa", sum := "8fd832f6f8815e5ea9f8424111c808ea353d4da9be907ab45d800c68307c5239", checked := Try.checked }
namespace Rows
def none {H : Type} : Left H := { results := [], args := [] }

/-- 'catchpolelaw4.TokenKnown': WHATEVER THE INPUT: true; the input reads as it did. -/
def tokenKnownSpec : ChangeSpec := { name := "tokenKnown", fn := fun _ => fun
  | [] => { results := [.lit (.bool true)], args := [] }
  | _ => none }
def tokenKnownRow : OpenClaim := { program := "ytoefnbinfmbckaa", sum := "8fd832f6f8815e5ea9f8424111c808ea353d4da9be907ab45d800c68307c5239", func := "catchpole/catchpolelaw4.TokenKnown", spec := "tokenKnown", inPlace := ["internal/bytealg.IndexByteString", "internal/bytealg.IndexString"], unfollowed := true, recurses := true, named := ["internal/bytealg.MaxLen"], apart := false }
def TokenKnownSaid : Prop := tokenKnownRow.holds Try.pinned (OpenSpec.ofChange tokenKnownSpec)

/-- ITS FALSE NEIGHBOUR: 'it returns false'. Refute it at one input. -/
def tokenKnownWrong : ChangeSpec := { name := "tokenKnown", fn := fun _ => fun
  | [] => { results := [.lit (.bool false)], args := [] }
  | _ => none }
def TokenKnownWrongFalsely : Prop := tokenKnownRow.holds Try.pinned (OpenSpec.ofChange tokenKnownWrong)

/-- 'catchpolelaw4.TokenParts': WHATEVER THE INPUT: true; the input reads as it did. -/
def tokenPartsSpec : ChangeSpec := { name := "tokenParts", fn := fun _ => fun
  | [d1, d2] => { results := [.lit (.bool true)], args := [d1, d2] }
  | _ => none }
def tokenPartsRow : OpenClaim := { program := "ytoefnbinfmbckaa", sum := "8fd832f6f8815e5ea9f8424111c808ea353d4da9be907ab45d800c68307c5239", func := "catchpole/catchpolelaw4.TokenParts", spec := "tokenParts", inPlace := ["internal/bytealg.IndexByteString", "internal/bytealg.IndexString"], unfollowed := true, recurses := true, named := ["internal/bytealg.MaxLen"], apart := false }
def TokenPartsSaid : Prop := tokenPartsRow.holds Try.pinned (OpenSpec.ofChange tokenPartsSpec)

/-- ITS FALSE NEIGHBOUR: 'it returns false'. Refute it at one input. -/
def tokenPartsWrong : ChangeSpec := { name := "tokenParts", fn := fun _ => fun
  | [d1, d2] => { results := [.lit (.bool false)], args := [d1, d2] }
  | _ => none }
def TokenPartsWrongFalsely : Prop := tokenPartsRow.holds Try.pinned (OpenSpec.ofChange tokenPartsWrong)

/-- 'catchpolelaw4.TokenEscapes': WHATEVER THE INPUT: true; the input reads as it did. -/
def tokenEscapesSpec : ChangeSpec := { name := "tokenEscapes", fn := fun _ => fun
  | [d] => { results := [.lit (.bool true)], args := [d] }
  | _ => none }
def tokenEscapesRow : OpenClaim := { program := "ytoefnbinfmbckaa", sum := "8fd832f6f8815e5ea9f8424111c808ea353d4da9be907ab45d800c68307c5239", func := "catchpole/catchpolelaw4.TokenEscapes", spec := "tokenEscapes", inPlace := ["internal/bytealg.IndexByteString", "internal/bytealg.IndexString"], unfollowed := true, recurses := true, named := ["internal/bytealg.MaxLen"], apart := false }
def TokenEscapesSaid : Prop := tokenEscapesRow.holds Try.pinned (OpenSpec.ofChange tokenEscapesSpec)

/-- ITS FALSE NEIGHBOUR: 'it returns false'. Refute it at one input. -/
def tokenEscapesWrong : ChangeSpec := { name := "tokenEscapes", fn := fun _ => fun
  | [d] => { results := [.lit (.bool false)], args := [d] }
  | _ => none }
def TokenEscapesWrongFalsely : Prop := tokenEscapesRow.holds Try.pinned (OpenSpec.ofChange tokenEscapesWrong)

/-- 'catchpolelaw4.TokenCounts': WHATEVER THE INPUT: true; the input reads as it did. -/
def tokenCountsSpec : ChangeSpec := { name := "tokenCounts", fn := fun _ => fun
  | [d1, d2] => { results := [.lit (.bool true)], args := [d1, d2] }
  | _ => none }
def tokenCountsRow : OpenClaim := { program := "ytoefnbinfmbckaa", sum := "8fd832f6f8815e5ea9f8424111c808ea353d4da9be907ab45d800c68307c5239", func := "catchpole/catchpolelaw4.TokenCounts", spec := "tokenCounts", inPlace := ["internal/bytealg.IndexByteString", "internal/bytealg.IndexString"], unfollowed := true, recurses := true, named := ["internal/bytealg.MaxLen"], apart := false }
def TokenCountsSaid : Prop := tokenCountsRow.holds Try.pinned (OpenSpec.ofChange tokenCountsSpec)

/-- ITS FALSE NEIGHBOUR: 'it returns false'. Refute it at one input. -/
def tokenCountsWrong : ChangeSpec := { name := "tokenCounts", fn := fun _ => fun
  | [d1, d2] => { results := [.lit (.bool false)], args := [d1, d2] }
  | _ => none }
def TokenCountsWrongFalsely : Prop := tokenCountsRow.holds Try.pinned (OpenSpec.ofChange tokenCountsWrong)

/- THE SECOND FORM. 'bulk': how many values and letters a reading holds, each counted each time it is reached (what is shared counts as often as it is met; a slice's spare places count too). A statement '..UptoSaid' is the law's where the arguments, and the package variables that the reading takes, are together of bulk at most 1048576: NARROWER than '..Said'. Prove '..Said' where nothing that the law and all that it calls make is longer than what came in: it says more and counts as full. Else prove '..UptoSaid'. A law counts once. -/
mutual
def uptoBulk {H : Type} : DataW H → Nat
  | .lit (.string bytes) => bytes.length + 1
  | .lit _ => 1
  | .nil => 1
  | .ptr d => uptoBulk d + 1
  | .slice elems spare => uptoBulkAll elems + uptoBulkAll spare + 1
  | .agg parts => uptoBulkAll parts + 1
  | .iface _ d => uptoBulk d + 1
  | .map entries => uptoBulkEntries entries + 1
  | .held _ => 1
def uptoBulkAll {H : Type} : List (DataW H) → Nat
  | [] => 0
  | d :: r => uptoBulk d + uptoBulkAll r
def uptoBulkEntries {H : Type} : List (Lit × DataW H) → Nat
  | [] => 0
  | x :: r => uptoBulkEntry x + uptoBulkEntries r
def uptoBulkEntry {H : Type} : Lit × DataW H → Nat
  | (.string bytes, d) => bytes.length + uptoBulk d + 1
  | (_, d) => uptoBulk d + 1
 end
def uptoSmall : (H : Type) → List (DataW H) → Bool := fun _ ds => decide (uptoBulkAll ds ≤ 1048576)
def OpenSpec.upto (s : _root_.Go.ChangeSpec) : _root_.Go.OpenSpec := { _root_.Go.OpenSpec.ofChange s with cond := some uptoSmall }

/-- 'catchpolelaw4.TokenKnown', WHERE WHAT IT READS IS OF BULK AT MOST 1048576: true; the input reads as it did. -/
def tokenKnownUptoRow : OpenClaim := { program := "ytoefnbinfmbckaa", sum := "8fd832f6f8815e5ea9f8424111c808ea353d4da9be907ab45d800c68307c5239", func := "catchpole/catchpolelaw4.TokenKnown", spec := "tokenKnown", inPlace := ["internal/bytealg.IndexByteString", "internal/bytealg.IndexString"], unfollowed := true, recurses := true, named := ["internal/bytealg.MaxLen"], apart := false, narrowed := true }
def TokenKnownUptoSaid : Prop := tokenKnownUptoRow.holds Try.pinned (OpenSpec.upto tokenKnownSpec)

/-- 'catchpolelaw4.TokenParts', WHERE WHAT IT READS IS OF BULK AT MOST 1048576: true; the input reads as it did. -/
def tokenPartsUptoRow : OpenClaim := { program := "ytoefnbinfmbckaa", sum := "8fd832f6f8815e5ea9f8424111c808ea353d4da9be907ab45d800c68307c5239", func := "catchpole/catchpolelaw4.TokenParts", spec := "tokenParts", inPlace := ["internal/bytealg.IndexByteString", "internal/bytealg.IndexString"], unfollowed := true, recurses := true, named := ["internal/bytealg.MaxLen"], apart := false, narrowed := true }
def TokenPartsUptoSaid : Prop := tokenPartsUptoRow.holds Try.pinned (OpenSpec.upto tokenPartsSpec)

/-- 'catchpolelaw4.TokenEscapes', WHERE WHAT IT READS IS OF BULK AT MOST 1048576: true; the input reads as it did. -/
def tokenEscapesUptoRow : OpenClaim := { program := "ytoefnbinfmbckaa", sum := "8fd832f6f8815e5ea9f8424111c808ea353d4da9be907ab45d800c68307c5239", func := "catchpole/catchpolelaw4.TokenEscapes", spec := "tokenEscapes", inPlace := ["internal/bytealg.IndexByteString", "internal/bytealg.IndexString"], unfollowed := true, recurses := true, named := ["internal/bytealg.MaxLen"], apart := false, narrowed := true }
def TokenEscapesUptoSaid : Prop := tokenEscapesUptoRow.holds Try.pinned (OpenSpec.upto tokenEscapesSpec)

/-- 'catchpolelaw4.TokenCounts', WHERE WHAT IT READS IS OF BULK AT MOST 1048576: true; the input reads as it did. -/
def tokenCountsUptoRow : OpenClaim := { program := "ytoefnbinfmbckaa", sum := "8fd832f6f8815e5ea9f8424111c808ea353d4da9be907ab45d800c68307c5239", func := "catchpole/catchpolelaw4.TokenCounts", spec := "tokenCounts", inPlace := ["internal/bytealg.IndexByteString", "internal/bytealg.IndexString"], unfollowed := true, recurses := true, named := ["internal/bytealg.MaxLen"], apart := false, narrowed := true }
def TokenCountsUptoSaid : Prop := tokenCountsUptoRow.holds Try.pinned (OpenSpec.upto tokenCountsSpec)

end Rows
end Go.Proofs.Ytoefnbinfmbckaa
