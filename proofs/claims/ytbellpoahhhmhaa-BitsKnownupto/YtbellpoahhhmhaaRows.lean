/-
  NARROWER THAN 'FOR EVERY INPUT', by the rows' own cells (each row's printed sentence says how): ValueMade: loops · ValueSizes: loops · ValueTexts: loops · ValueSays: loops · BitsSays: loops · BitsFull: loops · BitsBack: loops · BitsApart: loops.
  DERIVED. THE GIVEN ROWS OF THIS SEAT. 10 by the template 'for every input the law returns true; each argument reads behind the call as it read before'; 0 by the template 'total and deterministic' (their statements: YtbellpoahhhmhaaTotals.lean).
  GIVEN WITH THE SEED: the statements are not yours to turn. If you find one false, say at which input.
  Laid BY PROGRAM, IN A SANDBOX (cutbox-rows.mjs): the forced cells as the released guide's own fill.sh prints them over the translation 2753c732eec5cd91… (all of the seat's roots in one cut). By AI agents, Wed Nov 11 2026. No macro, syntax, notation, axiom, sorry.
-/
import Derived.Test.YtbellpoahhhmhaaChecked
import GoSem.Claim
import GoSem.ClaimJoined
import GoSem.ClaimMapViews
import Derived.JoinedTies
import Derived.KernelRfl
namespace Go.Proofs.Ytbellpoahhhmhaa
/- THE CELL 'sum', in the pinned program and in every row, IS THE sha256 OF THE DUMP (.gsa) THAT YtbellpoahhhmhaaProg.lean LOADS. Nothing in Lean hashes anything: it is a label: what it is worth is what the hold of that sum in a sandbox is worth. -/
noncomputable def Try.pinned : Pinned := { name := "ytbellpoahhhmhaa", sum := "2753c732eec5cd91b1ac5ca3089b033aab7a401920255fb82a235cec4fea829a", checked := Try.checked }
namespace Rows
def none {H : Type} : Left H := { results := [], args := [] }

/-- 'catchpolelaw10.ValueMade': WHATEVER THE INPUT: true; the input reads as it did. -/
def valueMadeSpec : ChangeSpec := { name := "valueMade", fn := fun _ => fun
  | [d1, d2, d3, d4] => { results := [.lit (.bool true)], args := [d1, d2, d3, d4] }
  | _ => none }
def valueMadeRow : OpenClaim := { program := "ytbellpoahhhmhaa", sum := "2753c732eec5cd91b1ac5ca3089b033aab7a401920255fb82a235cec4fea829a", func := "catchpole/catchpolelaw10.ValueMade", spec := "valueMade", inPlace := ["internal/abi.NoEscape"], unfollowed := true, recurses := true, loops := true, apart := false }
def ValueMadeSaid : Prop := valueMadeRow.holds Try.pinned (OpenSpec.ofChange valueMadeSpec)

/-- ITS FALSE NEIGHBOUR: 'it returns false'. Refute it at one input. -/
def valueMadeWrong : ChangeSpec := { name := "valueMade", fn := fun _ => fun
  | [d1, d2, d3, d4] => { results := [.lit (.bool false)], args := [d1, d2, d3, d4] }
  | _ => none }
def ValueMadeWrongFalsely : Prop := valueMadeRow.holds Try.pinned (OpenSpec.ofChange valueMadeWrong)

/-- 'catchpolelaw10.ValueSizes': WHATEVER THE INPUT: true; the input reads as it did. -/
def valueSizesSpec : ChangeSpec := { name := "valueSizes", fn := fun _ => fun
  | [d1, d2] => { results := [.lit (.bool true)], args := [d1, d2] }
  | _ => none }
def valueSizesRow : OpenClaim := { program := "ytbellpoahhhmhaa", sum := "2753c732eec5cd91b1ac5ca3089b033aab7a401920255fb82a235cec4fea829a", func := "catchpole/catchpolelaw10.ValueSizes", spec := "valueSizes", inPlace := ["internal/abi.NoEscape"], unfollowed := true, recurses := true, loops := true, apart := false }
def ValueSizesSaid : Prop := valueSizesRow.holds Try.pinned (OpenSpec.ofChange valueSizesSpec)

/-- ITS FALSE NEIGHBOUR: 'it returns false'. Refute it at one input. -/
def valueSizesWrong : ChangeSpec := { name := "valueSizes", fn := fun _ => fun
  | [d1, d2] => { results := [.lit (.bool false)], args := [d1, d2] }
  | _ => none }
def ValueSizesWrongFalsely : Prop := valueSizesRow.holds Try.pinned (OpenSpec.ofChange valueSizesWrong)

/-- 'catchpolelaw10.ValueTexts': WHATEVER THE INPUT: true; the input reads as it did. -/
def valueTextsSpec : ChangeSpec := { name := "valueTexts", fn := fun _ => fun
  | [d1, d2, d3] => { results := [.lit (.bool true)], args := [d1, d2, d3] }
  | _ => none }
def valueTextsRow : OpenClaim := { program := "ytbellpoahhhmhaa", sum := "2753c732eec5cd91b1ac5ca3089b033aab7a401920255fb82a235cec4fea829a", func := "catchpole/catchpolelaw10.ValueTexts", spec := "valueTexts", inPlace := ["internal/abi.NoEscape"], unfollowed := true, recurses := true, loops := true, apart := false }
def ValueTextsSaid : Prop := valueTextsRow.holds Try.pinned (OpenSpec.ofChange valueTextsSpec)

/-- ITS FALSE NEIGHBOUR: 'it returns false'. Refute it at one input. -/
def valueTextsWrong : ChangeSpec := { name := "valueTexts", fn := fun _ => fun
  | [d1, d2, d3] => { results := [.lit (.bool false)], args := [d1, d2, d3] }
  | _ => none }
def ValueTextsWrongFalsely : Prop := valueTextsRow.holds Try.pinned (OpenSpec.ofChange valueTextsWrong)

/-- 'catchpolelaw10.ValueKnown': WHATEVER THE INPUT: true; the input reads as it did. -/
def valueKnownSpec : ChangeSpec := { name := "valueKnown", fn := fun _ => fun
  | [] => { results := [.lit (.bool true)], args := [] }
  | _ => none }
def valueKnownRow : OpenClaim := { program := "ytbellpoahhhmhaa", sum := "2753c732eec5cd91b1ac5ca3089b033aab7a401920255fb82a235cec4fea829a", func := "catchpole/catchpolelaw10.ValueKnown", spec := "valueKnown", inPlace := ["internal/abi.NoEscape"], unfollowed := true, recurses := true, apart := false }
def ValueKnownSaid : Prop := valueKnownRow.holds Try.pinned (OpenSpec.ofChange valueKnownSpec)

/-- ITS FALSE NEIGHBOUR: 'it returns false'. Refute it at one input. -/
def valueKnownWrong : ChangeSpec := { name := "valueKnown", fn := fun _ => fun
  | [] => { results := [.lit (.bool false)], args := [] }
  | _ => none }
def ValueKnownWrongFalsely : Prop := valueKnownRow.holds Try.pinned (OpenSpec.ofChange valueKnownWrong)

/-- 'catchpolelaw10.ValueSays': WHATEVER THE INPUT: true; the input reads as it did. -/
def valueSaysSpec : ChangeSpec := { name := "valueSays", fn := fun _ => fun
  | [d1, d2, d3] => { results := [.lit (.bool true)], args := [d1, d2, d3] }
  | _ => none }
def valueSaysRow : OpenClaim := { program := "ytbellpoahhhmhaa", sum := "2753c732eec5cd91b1ac5ca3089b033aab7a401920255fb82a235cec4fea829a", func := "catchpole/catchpolelaw10.ValueSays", spec := "valueSays", inPlace := ["internal/abi.NoEscape"], unfollowed := true, recurses := true, loops := true, apart := false }
def ValueSaysSaid : Prop := valueSaysRow.holds Try.pinned (OpenSpec.ofChange valueSaysSpec)

/-- ITS FALSE NEIGHBOUR: 'it returns false'. Refute it at one input. -/
def valueSaysWrong : ChangeSpec := { name := "valueSays", fn := fun _ => fun
  | [d1, d2, d3] => { results := [.lit (.bool false)], args := [d1, d2, d3] }
  | _ => none }
def ValueSaysWrongFalsely : Prop := valueSaysRow.holds Try.pinned (OpenSpec.ofChange valueSaysWrong)

/-- 'catchpolelaw11.BitsSays': WHATEVER THE INPUT: true; the input reads as it did. -/
def bitsSaysSpec : ChangeSpec := { name := "bitsSays", fn := fun _ => fun
  | [d1, d2, d3, d4] => { results := [.lit (.bool true)], args := [d1, d2, d3, d4] }
  | _ => none }
def bitsSaysRow : OpenClaim := { program := "ytbellpoahhhmhaa", sum := "2753c732eec5cd91b1ac5ca3089b033aab7a401920255fb82a235cec4fea829a", func := "catchpole/catchpolelaw11.BitsSays", spec := "bitsSays", inPlace := ["internal/abi.NoEscape"], unfollowed := true, recurses := true, loops := true, apart := false }
def BitsSaysSaid : Prop := bitsSaysRow.holds Try.pinned (OpenSpec.ofChange bitsSaysSpec)

/-- ITS FALSE NEIGHBOUR: 'it returns false'. Refute it at one input. -/
def bitsSaysWrong : ChangeSpec := { name := "bitsSays", fn := fun _ => fun
  | [d1, d2, d3, d4] => { results := [.lit (.bool false)], args := [d1, d2, d3, d4] }
  | _ => none }
def BitsSaysWrongFalsely : Prop := bitsSaysRow.holds Try.pinned (OpenSpec.ofChange bitsSaysWrong)

/-- 'catchpolelaw11.BitsFull': WHATEVER THE INPUT: true; the input reads as it did. -/
def bitsFullSpec : ChangeSpec := { name := "bitsFull", fn := fun _ => fun
  | [d1, d2, d3, d4] => { results := [.lit (.bool true)], args := [d1, d2, d3, d4] }
  | _ => none }
def bitsFullRow : OpenClaim := { program := "ytbellpoahhhmhaa", sum := "2753c732eec5cd91b1ac5ca3089b033aab7a401920255fb82a235cec4fea829a", func := "catchpole/catchpolelaw11.BitsFull", spec := "bitsFull", inPlace := ["internal/abi.NoEscape"], unfollowed := true, recurses := true, loops := true, apart := false }
def BitsFullSaid : Prop := bitsFullRow.holds Try.pinned (OpenSpec.ofChange bitsFullSpec)

/-- ITS FALSE NEIGHBOUR: 'it returns false'. Refute it at one input. -/
def bitsFullWrong : ChangeSpec := { name := "bitsFull", fn := fun _ => fun
  | [d1, d2, d3, d4] => { results := [.lit (.bool false)], args := [d1, d2, d3, d4] }
  | _ => none }
def BitsFullWrongFalsely : Prop := bitsFullRow.holds Try.pinned (OpenSpec.ofChange bitsFullWrong)

/-- 'catchpolelaw11.BitsKnown': WHATEVER THE INPUT: true; the input reads as it did. -/
def bitsKnownSpec : ChangeSpec := { name := "bitsKnown", fn := fun _ => fun
  | [] => { results := [.lit (.bool true)], args := [] }
  | _ => none }
def bitsKnownRow : OpenClaim := { program := "ytbellpoahhhmhaa", sum := "2753c732eec5cd91b1ac5ca3089b033aab7a401920255fb82a235cec4fea829a", func := "catchpole/catchpolelaw11.BitsKnown", spec := "bitsKnown", inPlace := ["internal/abi.NoEscape"], unfollowed := true, recurses := true, apart := false }
def BitsKnownSaid : Prop := bitsKnownRow.holds Try.pinned (OpenSpec.ofChange bitsKnownSpec)

/-- ITS FALSE NEIGHBOUR: 'it returns false'. Refute it at one input. -/
def bitsKnownWrong : ChangeSpec := { name := "bitsKnown", fn := fun _ => fun
  | [] => { results := [.lit (.bool false)], args := [] }
  | _ => none }
def BitsKnownWrongFalsely : Prop := bitsKnownRow.holds Try.pinned (OpenSpec.ofChange bitsKnownWrong)

/-- 'catchpolelaw11.BitsBack': WHATEVER THE INPUT: true; the input reads as it did. -/
def bitsBackSpec : ChangeSpec := { name := "bitsBack", fn := fun _ => fun
  | [d1, d2, d3, d4] => { results := [.lit (.bool true)], args := [d1, d2, d3, d4] }
  | _ => none }
def bitsBackRow : OpenClaim := { program := "ytbellpoahhhmhaa", sum := "2753c732eec5cd91b1ac5ca3089b033aab7a401920255fb82a235cec4fea829a", func := "catchpole/catchpolelaw11.BitsBack", spec := "bitsBack", inPlace := ["internal/abi.NoEscape"], unfollowed := true, recurses := true, loops := true, apart := false }
def BitsBackSaid : Prop := bitsBackRow.holds Try.pinned (OpenSpec.ofChange bitsBackSpec)

/-- ITS FALSE NEIGHBOUR: 'it returns false'. Refute it at one input. -/
def bitsBackWrong : ChangeSpec := { name := "bitsBack", fn := fun _ => fun
  | [d1, d2, d3, d4] => { results := [.lit (.bool false)], args := [d1, d2, d3, d4] }
  | _ => none }
def BitsBackWrongFalsely : Prop := bitsBackRow.holds Try.pinned (OpenSpec.ofChange bitsBackWrong)

/-- 'catchpolelaw11.BitsApart': WHATEVER THE INPUT: true; the input reads as it did. -/
def bitsApartSpec : ChangeSpec := { name := "bitsApart", fn := fun _ => fun
  | [d1, d2, d3] => { results := [.lit (.bool true)], args := [d1, d2, d3] }
  | _ => none }
def bitsApartRow : OpenClaim := { program := "ytbellpoahhhmhaa", sum := "2753c732eec5cd91b1ac5ca3089b033aab7a401920255fb82a235cec4fea829a", func := "catchpole/catchpolelaw11.BitsApart", spec := "bitsApart", inPlace := ["internal/abi.NoEscape"], unfollowed := true, recurses := true, loops := true, apart := false }
def BitsApartSaid : Prop := bitsApartRow.holds Try.pinned (OpenSpec.ofChange bitsApartSpec)

/-- ITS FALSE NEIGHBOUR: 'it returns false'. Refute it at one input. -/
def bitsApartWrong : ChangeSpec := { name := "bitsApart", fn := fun _ => fun
  | [d1, d2, d3] => { results := [.lit (.bool false)], args := [d1, d2, d3] }
  | _ => none }
def BitsApartWrongFalsely : Prop := bitsApartRow.holds Try.pinned (OpenSpec.ofChange bitsApartWrong)

/- THE SECOND FORM. 'bulk': how many values and letters a reading holds, each counted each time it is reached (what is shared counts as often as it is met; a slice's spare places count too). A statement '..UptoSaid' is the law's where the arguments, and the package variables that the reading takes, are together of bulk at most 1048576: NARROWER than '..Said'. Prove '..Said' where nothing that the law and all that it calls make is longer than what came in: it says more and counts as full. Else prove '..UptoSaid'. A law counts once. -/
mutual
def uptoBulk {H : Type} : DataW H → Nat
  | .lit (.string bytes) => bytes.length + 1
  | .lit _ => 1
  | .nil => 1
  | .ptr d => uptoBulk d + 1
  | .slice elems spare => uptoBulkAll elems + uptoBulkAll spare + 1
  | .agg parts => uptoBulkAll parts + 1
  | .iface _ d => uptoBulk d + 1
  | .map entries => uptoBulkEntries entries + 1
  | .held _ => 1
def uptoBulkAll {H : Type} : List (DataW H) → Nat
  | [] => 0
  | d :: r => uptoBulk d + uptoBulkAll r
def uptoBulkEntries {H : Type} : List (Lit × DataW H) → Nat
  | [] => 0
  | x :: r => uptoBulkEntry x + uptoBulkEntries r
def uptoBulkEntry {H : Type} : Lit × DataW H → Nat
  | (.string bytes, d) => bytes.length + uptoBulk d + 1
  | (_, d) => uptoBulk d + 1
 end
def uptoSmall : (H : Type) → List (DataW H) → Bool := fun _ ds => decide (uptoBulkAll ds ≤ 1048576)
def OpenSpec.upto (s : _root_.Go.ChangeSpec) : _root_.Go.OpenSpec := { _root_.Go.OpenSpec.ofChange s with cond := some uptoSmall }

/-- 'catchpolelaw10.ValueMade', WHERE WHAT IT READS IS OF BULK AT MOST 1048576: true; the input reads as it did. -/
def valueMadeUptoRow : OpenClaim := { program := "ytbellpoahhhmhaa", sum := "2753c732eec5cd91b1ac5ca3089b033aab7a401920255fb82a235cec4fea829a", func := "catchpole/catchpolelaw10.ValueMade", spec := "valueMade", inPlace := ["internal/abi.NoEscape"], unfollowed := true, recurses := true, loops := true, apart := false, narrowed := true }
def ValueMadeUptoSaid : Prop := valueMadeUptoRow.holds Try.pinned (OpenSpec.upto valueMadeSpec)

/-- 'catchpolelaw10.ValueSizes', WHERE WHAT IT READS IS OF BULK AT MOST 1048576: true; the input reads as it did. -/
def valueSizesUptoRow : OpenClaim := { program := "ytbellpoahhhmhaa", sum := "2753c732eec5cd91b1ac5ca3089b033aab7a401920255fb82a235cec4fea829a", func := "catchpole/catchpolelaw10.ValueSizes", spec := "valueSizes", inPlace := ["internal/abi.NoEscape"], unfollowed := true, recurses := true, loops := true, apart := false, narrowed := true }
def ValueSizesUptoSaid : Prop := valueSizesUptoRow.holds Try.pinned (OpenSpec.upto valueSizesSpec)

/-- 'catchpolelaw10.ValueTexts', WHERE WHAT IT READS IS OF BULK AT MOST 1048576: true; the input reads as it did. -/
def valueTextsUptoRow : OpenClaim := { program := "ytbellpoahhhmhaa", sum := "2753c732eec5cd91b1ac5ca3089b033aab7a401920255fb82a235cec4fea829a", func := "catchpole/catchpolelaw10.ValueTexts", spec := "valueTexts", inPlace := ["internal/abi.NoEscape"], unfollowed := true, recurses := true, loops := true, apart := false, narrowed := true }
def ValueTextsUptoSaid : Prop := valueTextsUptoRow.holds Try.pinned (OpenSpec.upto valueTextsSpec)

/-- 'catchpolelaw10.ValueKnown', WHERE WHAT IT READS IS OF BULK AT MOST 1048576: true; the input reads as it did. -/
def valueKnownUptoRow : OpenClaim := { program := "ytbellpoahhhmhaa", sum := "2753c732eec5cd91b1ac5ca3089b033aab7a401920255fb82a235cec4fea829a", func := "catchpole/catchpolelaw10.ValueKnown", spec := "valueKnown", inPlace := ["internal/abi.NoEscape"], unfollowed := true, recurses := true, apart := false, narrowed := true }
def ValueKnownUptoSaid : Prop := valueKnownUptoRow.holds Try.pinned (OpenSpec.upto valueKnownSpec)

/-- 'catchpolelaw10.ValueSays', WHERE WHAT IT READS IS OF BULK AT MOST 1048576: true; the input reads as it did. -/
def valueSaysUptoRow : OpenClaim := { program := "ytbellpoahhhmhaa", sum := "2753c732eec5cd91b1ac5ca3089b033aab7a401920255fb82a235cec4fea829a", func := "catchpole/catchpolelaw10.ValueSays", spec := "valueSays", inPlace := ["internal/abi.NoEscape"], unfollowed := true, recurses := true, loops := true, apart := false, narrowed := true }
def ValueSaysUptoSaid : Prop := valueSaysUptoRow.holds Try.pinned (OpenSpec.upto valueSaysSpec)

/-- 'catchpolelaw11.BitsSays', WHERE WHAT IT READS IS OF BULK AT MOST 1048576: true; the input reads as it did. -/
def bitsSaysUptoRow : OpenClaim := { program := "ytbellpoahhhmhaa", sum := "2753c732eec5cd91b1ac5ca3089b033aab7a401920255fb82a235cec4fea829a", func := "catchpole/catchpolelaw11.BitsSays", spec := "bitsSays", inPlace := ["internal/abi.NoEscape"], unfollowed := true, recurses := true, loops := true, apart := false, narrowed := true }
def BitsSaysUptoSaid : Prop := bitsSaysUptoRow.holds Try.pinned (OpenSpec.upto bitsSaysSpec)

/-- 'catchpolelaw11.BitsFull', WHERE WHAT IT READS IS OF BULK AT MOST 1048576: true; the input reads as it did. -/
def bitsFullUptoRow : OpenClaim := { program := "ytbellpoahhhmhaa", sum := "2753c732eec5cd91b1ac5ca3089b033aab7a401920255fb82a235cec4fea829a", func := "catchpole/catchpolelaw11.BitsFull", spec := "bitsFull", inPlace := ["internal/abi.NoEscape"], unfollowed := true, recurses := true, loops := true, apart := false, narrowed := true }
def BitsFullUptoSaid : Prop := bitsFullUptoRow.holds Try.pinned (OpenSpec.upto bitsFullSpec)

/-- 'catchpolelaw11.BitsKnown', WHERE WHAT IT READS IS OF BULK AT MOST 1048576: true; the input reads as it did. -/
def bitsKnownUptoRow : OpenClaim := { program := "ytbellpoahhhmhaa", sum := "2753c732eec5cd91b1ac5ca3089b033aab7a401920255fb82a235cec4fea829a", func := "catchpole/catchpolelaw11.BitsKnown", spec := "bitsKnown", inPlace := ["internal/abi.NoEscape"], unfollowed := true, recurses := true, apart := false, narrowed := true }
def BitsKnownUptoSaid : Prop := bitsKnownUptoRow.holds Try.pinned (OpenSpec.upto bitsKnownSpec)

/-- 'catchpolelaw11.BitsBack', WHERE WHAT IT READS IS OF BULK AT MOST 1048576: true; the input reads as it did. -/
def bitsBackUptoRow : OpenClaim := { program := "ytbellpoahhhmhaa", sum := "2753c732eec5cd91b1ac5ca3089b033aab7a401920255fb82a235cec4fea829a", func := "catchpole/catchpolelaw11.BitsBack", spec := "bitsBack", inPlace := ["internal/abi.NoEscape"], unfollowed := true, recurses := true, loops := true, apart := false, narrowed := true }
def BitsBackUptoSaid : Prop := bitsBackUptoRow.holds Try.pinned (OpenSpec.upto bitsBackSpec)

/-- 'catchpolelaw11.BitsApart', WHERE WHAT IT READS IS OF BULK AT MOST 1048576: true; the input reads as it did. -/
def bitsApartUptoRow : OpenClaim := { program := "ytbellpoahhhmhaa", sum := "2753c732eec5cd91b1ac5ca3089b033aab7a401920255fb82a235cec4fea829a", func := "catchpole/catchpolelaw11.BitsApart", spec := "bitsApart", inPlace := ["internal/abi.NoEscape"], unfollowed := true, recurses := true, loops := true, apart := false, narrowed := true }
def BitsApartUptoSaid : Prop := bitsApartUptoRow.holds Try.pinned (OpenSpec.upto bitsApartSpec)

end Rows
end Go.Proofs.Ytbellpoahhhmhaa
