/-
  No cell of these rows narrows 'for every input' (looked for: loops, veiled, ifaces, maps, wideKeys, modest, calm, conditions, laid).
  DERIVED. THE GIVEN ROWS OF THIS SEAT. 12 by the template 'for every input the law returns true; each argument reads behind the call as it read before'; 0 by the template 'total and deterministic' (their statements: YtbleacpdobjdaaaTotals.lean).
  GIVEN WITH THE SEED: the statements are not yours to turn. If you find one false, say at which input.
  Laid BY PROGRAM, IN A SANDBOX (cutbox-rows.mjs): the forced cells as the released guide's own fill.sh prints them over the translation 6e6491000597d4cc… (all of the seat's roots in one cut). By AI agents, Wed Nov 11 2026. No macro, syntax, notation, axiom, sorry.
-/
import Derived.Test.YtbleacpdobjdaaaChecked
import GoSem.Claim
import GoSem.ClaimJoined
import GoSem.ClaimMapViews
import Derived.JoinedTies
import Derived.KernelRfl
namespace Go.Proofs.Ytbleacpdobjdaaa
/- THE CELL 'sum', in the pinned program and in every row, IS THE sha256 OF THE DUMP (.gsa) THAT YtbleacpdobjdaaaProg.lean LOADS. Nothing in Lean hashes anything: it is a label: what it is worth is what the hold of that sum in a sandbox is worth. -/
noncomputable def Try.pinned : Pinned := { name := "ytbleacpdobjdaaa", sum := "6e6491000597d4cce38f3a52810a96b5729edff21b6f99d804333a72d2c61733", checked := Try.checked }
namespace Rows
def none {H : Type} : Left H := { results := [], args := [] }

/-- 'palmerlaw11.TextWords': WHATEVER THE INPUT: true; the input reads as it did. -/
def textWordsSpec : ChangeSpec := { name := "textWords", fn := fun _ => fun
  | [d] => { results := [.lit (.bool true)], args := [d] }
  | _ => none }
def textWordsRow : OpenClaim := { program := "ytbleacpdobjdaaa", sum := "6e6491000597d4cce38f3a52810a96b5729edff21b6f99d804333a72d2c61733", func := "palmer/palmerlaw11.TextWords", spec := "textWords", inPlace := ["internal/bytealg.IndexByteString", "math/bits.Add64"], unfollowed := true, recurses := true, apart := false }
def TextWordsSaid : Prop := textWordsRow.holds Try.pinned (OpenSpec.ofChange textWordsSpec)

/-- ITS FALSE NEIGHBOUR: 'it returns false'. Refute it at one input. -/
def textWordsWrong : ChangeSpec := { name := "textWords", fn := fun _ => fun
  | [d] => { results := [.lit (.bool false)], args := [d] }
  | _ => none }
def TextWordsWrongFalsely : Prop := textWordsRow.holds Try.pinned (OpenSpec.ofChange textWordsWrong)

/-- 'palmerlaw11.TextNums': WHATEVER THE INPUT: true; the input reads as it did. -/
def textNumsSpec : ChangeSpec := { name := "textNums", fn := fun _ => fun
  | [d1, d2] => { results := [.lit (.bool true)], args := [d1, d2] }
  | _ => none }
def textNumsRow : OpenClaim := { program := "ytbleacpdobjdaaa", sum := "6e6491000597d4cce38f3a52810a96b5729edff21b6f99d804333a72d2c61733", func := "palmer/palmerlaw11.TextNums", spec := "textNums", inPlace := ["internal/bytealg.IndexByteString", "math/bits.Add64"], unfollowed := true, recurses := true, apart := false }
def TextNumsSaid : Prop := textNumsRow.holds Try.pinned (OpenSpec.ofChange textNumsSpec)

/-- ITS FALSE NEIGHBOUR: 'it returns false'. Refute it at one input. -/
def textNumsWrong : ChangeSpec := { name := "textNums", fn := fun _ => fun
  | [d1, d2] => { results := [.lit (.bool false)], args := [d1, d2] }
  | _ => none }
def TextNumsWrongFalsely : Prop := textNumsRow.holds Try.pinned (OpenSpec.ofChange textNumsWrong)

/-- 'palmerlaw11.TextPuts': WHATEVER THE INPUT: true; the input reads as it did. -/
def textPutsSpec : ChangeSpec := { name := "textPuts", fn := fun _ => fun
  | [d1, d2] => { results := [.lit (.bool true)], args := [d1, d2] }
  | _ => none }
def textPutsRow : OpenClaim := { program := "ytbleacpdobjdaaa", sum := "6e6491000597d4cce38f3a52810a96b5729edff21b6f99d804333a72d2c61733", func := "palmer/palmerlaw11.TextPuts", spec := "textPuts", inPlace := ["internal/bytealg.IndexByteString", "math/bits.Add64"], unfollowed := true, recurses := true, apart := false }
def TextPutsSaid : Prop := textPutsRow.holds Try.pinned (OpenSpec.ofChange textPutsSpec)

/-- ITS FALSE NEIGHBOUR: 'it returns false'. Refute it at one input. -/
def textPutsWrong : ChangeSpec := { name := "textPuts", fn := fun _ => fun
  | [d1, d2] => { results := [.lit (.bool false)], args := [d1, d2] }
  | _ => none }
def TextPutsWrongFalsely : Prop := textPutsRow.holds Try.pinned (OpenSpec.ofChange textPutsWrong)

/-- 'palmerlaw11.TextLines': WHATEVER THE INPUT: true; the input reads as it did. -/
def textLinesSpec : ChangeSpec := { name := "textLines", fn := fun _ => fun
  | [d] => { results := [.lit (.bool true)], args := [d] }
  | _ => none }
def textLinesRow : OpenClaim := { program := "ytbleacpdobjdaaa", sum := "6e6491000597d4cce38f3a52810a96b5729edff21b6f99d804333a72d2c61733", func := "palmer/palmerlaw11.TextLines", spec := "textLines", inPlace := ["internal/bytealg.IndexByteString", "math/bits.Add64"], unfollowed := true, recurses := true, apart := false }
def TextLinesSaid : Prop := textLinesRow.holds Try.pinned (OpenSpec.ofChange textLinesSpec)

/-- ITS FALSE NEIGHBOUR: 'it returns false'. Refute it at one input. -/
def textLinesWrong : ChangeSpec := { name := "textLines", fn := fun _ => fun
  | [d] => { results := [.lit (.bool false)], args := [d] }
  | _ => none }
def TextLinesWrongFalsely : Prop := textLinesRow.holds Try.pinned (OpenSpec.ofChange textLinesWrong)

/-- 'palmerlaw11.TextStops': WHATEVER THE INPUT: true; the input reads as it did. -/
def textStopsSpec : ChangeSpec := { name := "textStops", fn := fun _ => fun
  | [d1, d2] => { results := [.lit (.bool true)], args := [d1, d2] }
  | _ => none }
def textStopsRow : OpenClaim := { program := "ytbleacpdobjdaaa", sum := "6e6491000597d4cce38f3a52810a96b5729edff21b6f99d804333a72d2c61733", func := "palmer/palmerlaw11.TextStops", spec := "textStops", inPlace := ["internal/bytealg.IndexByteString", "math/bits.Add64"], unfollowed := true, recurses := true, apart := false }
def TextStopsSaid : Prop := textStopsRow.holds Try.pinned (OpenSpec.ofChange textStopsSpec)

/-- ITS FALSE NEIGHBOUR: 'it returns false'. Refute it at one input. -/
def textStopsWrong : ChangeSpec := { name := "textStops", fn := fun _ => fun
  | [d1, d2] => { results := [.lit (.bool false)], args := [d1, d2] }
  | _ => none }
def TextStopsWrongFalsely : Prop := textStopsRow.holds Try.pinned (OpenSpec.ofChange textStopsWrong)

/-- 'palmerlaw11.TextJoins': WHATEVER THE INPUT: true; the input reads as it did. -/
def textJoinsSpec : ChangeSpec := { name := "textJoins", fn := fun _ => fun
  | [d] => { results := [.lit (.bool true)], args := [d] }
  | _ => none }
def textJoinsRow : OpenClaim := { program := "ytbleacpdobjdaaa", sum := "6e6491000597d4cce38f3a52810a96b5729edff21b6f99d804333a72d2c61733", func := "palmer/palmerlaw11.TextJoins", spec := "textJoins", inPlace := ["internal/bytealg.IndexByteString", "math/bits.Add64"], unfollowed := true, recurses := true, apart := false }
def TextJoinsSaid : Prop := textJoinsRow.holds Try.pinned (OpenSpec.ofChange textJoinsSpec)

/-- ITS FALSE NEIGHBOUR: 'it returns false'. Refute it at one input. -/
def textJoinsWrong : ChangeSpec := { name := "textJoins", fn := fun _ => fun
  | [d] => { results := [.lit (.bool false)], args := [d] }
  | _ => none }
def TextJoinsWrongFalsely : Prop := textJoinsRow.holds Try.pinned (OpenSpec.ofChange textJoinsWrong)

/-- 'palmerlaw28.CorpusRecs': WHATEVER THE INPUT: true; the input reads as it did. -/
def corpusRecsSpec : ChangeSpec := { name := "corpusRecs", fn := fun _ => fun
  | [d1, d2, d3, d4] => { results := [.lit (.bool true)], args := [d1, d2, d3, d4] }
  | _ => none }
def corpusRecsRow : OpenClaim := { program := "ytbleacpdobjdaaa", sum := "6e6491000597d4cce38f3a52810a96b5729edff21b6f99d804333a72d2c61733", func := "palmer/palmerlaw28.CorpusRecs", spec := "corpusRecs", unfollowed := true, recurses := true, apart := false }
def CorpusRecsSaid : Prop := corpusRecsRow.holds Try.pinned (OpenSpec.ofChange corpusRecsSpec)

/-- ITS FALSE NEIGHBOUR: 'it returns false'. Refute it at one input. -/
def corpusRecsWrong : ChangeSpec := { name := "corpusRecs", fn := fun _ => fun
  | [d1, d2, d3, d4] => { results := [.lit (.bool false)], args := [d1, d2, d3, d4] }
  | _ => none }
def CorpusRecsWrongFalsely : Prop := corpusRecsRow.holds Try.pinned (OpenSpec.ofChange corpusRecsWrong)

/-- 'palmerlaw28.CorpusPaths': WHATEVER THE INPUT: true; the input reads as it did. -/
def corpusPathsSpec : ChangeSpec := { name := "corpusPaths", fn := fun _ => fun
  | [d] => { results := [.lit (.bool true)], args := [d] }
  | _ => none }
def corpusPathsRow : OpenClaim := { program := "ytbleacpdobjdaaa", sum := "6e6491000597d4cce38f3a52810a96b5729edff21b6f99d804333a72d2c61733", func := "palmer/palmerlaw28.CorpusPaths", spec := "corpusPaths", unfollowed := true, recurses := true, apart := false }
def CorpusPathsSaid : Prop := corpusPathsRow.holds Try.pinned (OpenSpec.ofChange corpusPathsSpec)

/-- ITS FALSE NEIGHBOUR: 'it returns false'. Refute it at one input. -/
def corpusPathsWrong : ChangeSpec := { name := "corpusPaths", fn := fun _ => fun
  | [d] => { results := [.lit (.bool false)], args := [d] }
  | _ => none }
def CorpusPathsWrongFalsely : Prop := corpusPathsRow.holds Try.pinned (OpenSpec.ofChange corpusPathsWrong)

/-- 'palmerlaw28.CorpusEach': WHATEVER THE INPUT: true; the input reads as it did. -/
def corpusEachSpec : ChangeSpec := { name := "corpusEach", fn := fun _ => fun
  | [d1, d2] => { results := [.lit (.bool true)], args := [d1, d2] }
  | _ => none }
def corpusEachRow : OpenClaim := { program := "ytbleacpdobjdaaa", sum := "6e6491000597d4cce38f3a52810a96b5729edff21b6f99d804333a72d2c61733", func := "palmer/palmerlaw28.CorpusEach", spec := "corpusEach", unfollowed := true, recurses := true, apart := false }
def CorpusEachSaid : Prop := corpusEachRow.holds Try.pinned (OpenSpec.ofChange corpusEachSpec)

/-- ITS FALSE NEIGHBOUR: 'it returns false'. Refute it at one input. -/
def corpusEachWrong : ChangeSpec := { name := "corpusEach", fn := fun _ => fun
  | [d1, d2] => { results := [.lit (.bool false)], args := [d1, d2] }
  | _ => none }
def CorpusEachWrongFalsely : Prop := corpusEachRow.holds Try.pinned (OpenSpec.ofChange corpusEachWrong)

/-- 'palmerlaw28.CorpusGaps': WHATEVER THE INPUT: true; the input reads as it did. -/
def corpusGapsSpec : ChangeSpec := { name := "corpusGaps", fn := fun _ => fun
  | [d1, d2] => { results := [.lit (.bool true)], args := [d1, d2] }
  | _ => none }
def corpusGapsRow : OpenClaim := { program := "ytbleacpdobjdaaa", sum := "6e6491000597d4cce38f3a52810a96b5729edff21b6f99d804333a72d2c61733", func := "palmer/palmerlaw28.CorpusGaps", spec := "corpusGaps", unfollowed := true, recurses := true, apart := false }
def CorpusGapsSaid : Prop := corpusGapsRow.holds Try.pinned (OpenSpec.ofChange corpusGapsSpec)

/-- ITS FALSE NEIGHBOUR: 'it returns false'. Refute it at one input. -/
def corpusGapsWrong : ChangeSpec := { name := "corpusGaps", fn := fun _ => fun
  | [d1, d2] => { results := [.lit (.bool false)], args := [d1, d2] }
  | _ => none }
def CorpusGapsWrongFalsely : Prop := corpusGapsRow.holds Try.pinned (OpenSpec.ofChange corpusGapsWrong)

/-- 'palmerlaw28.CorpusReads': WHATEVER THE INPUT: true; the input reads as it did. -/
def corpusReadsSpec : ChangeSpec := { name := "corpusReads", fn := fun _ => fun
  | [d] => { results := [.lit (.bool true)], args := [d] }
  | _ => none }
def corpusReadsRow : OpenClaim := { program := "ytbleacpdobjdaaa", sum := "6e6491000597d4cce38f3a52810a96b5729edff21b6f99d804333a72d2c61733", func := "palmer/palmerlaw28.CorpusReads", spec := "corpusReads", inPlace := ["internal/bytealg.IndexByteString", "math/bits.Add64"], unfollowed := true, recurses := true, apart := false }
def CorpusReadsSaid : Prop := corpusReadsRow.holds Try.pinned (OpenSpec.ofChange corpusReadsSpec)

/-- ITS FALSE NEIGHBOUR: 'it returns false'. Refute it at one input. -/
def corpusReadsWrong : ChangeSpec := { name := "corpusReads", fn := fun _ => fun
  | [d] => { results := [.lit (.bool false)], args := [d] }
  | _ => none }
def CorpusReadsWrongFalsely : Prop := corpusReadsRow.holds Try.pinned (OpenSpec.ofChange corpusReadsWrong)

/-- 'palmerlaw28.CorpusPrints': WHATEVER THE INPUT: true; the input reads as it did. -/
def corpusPrintsSpec : ChangeSpec := { name := "corpusPrints", fn := fun _ => fun
  | [d] => { results := [.lit (.bool true)], args := [d] }
  | _ => none }
def corpusPrintsRow : OpenClaim := { program := "ytbleacpdobjdaaa", sum := "6e6491000597d4cce38f3a52810a96b5729edff21b6f99d804333a72d2c61733", func := "palmer/palmerlaw28.CorpusPrints", spec := "corpusPrints", inPlace := ["internal/bytealg.IndexByteString", "math/bits.Add64"], unfollowed := true, recurses := true, apart := false }
def CorpusPrintsSaid : Prop := corpusPrintsRow.holds Try.pinned (OpenSpec.ofChange corpusPrintsSpec)

/-- ITS FALSE NEIGHBOUR: 'it returns false'. Refute it at one input. -/
def corpusPrintsWrong : ChangeSpec := { name := "corpusPrints", fn := fun _ => fun
  | [d] => { results := [.lit (.bool false)], args := [d] }
  | _ => none }
def CorpusPrintsWrongFalsely : Prop := corpusPrintsRow.holds Try.pinned (OpenSpec.ofChange corpusPrintsWrong)

/- THE SECOND FORM. 'bulk': how many values and letters a reading holds, each counted each time it is reached (what is shared counts as often as it is met; a slice's spare places count too). A statement '..UptoSaid' is the law's where the arguments, and the package variables that the reading takes, are together of bulk at most 1048576: NARROWER than '..Said'. Prove '..Said' where nothing that the law and all that it calls make is longer than what came in: it says more and counts as full. Else prove '..UptoSaid'. A law counts once. -/
mutual
def uptoBulk {H : Type} : DataW H → Nat
  | .lit (.string bytes) => bytes.length + 1
  | .lit _ => 1
  | .nil => 1
  | .ptr d => uptoBulk d + 1
  | .slice elems spare => uptoBulkAll elems + uptoBulkAll spare + 1
  | .agg parts => uptoBulkAll parts + 1
  | .iface _ d => uptoBulk d + 1
  | .map entries => uptoBulkEntries entries + 1
  | .held _ => 1
def uptoBulkAll {H : Type} : List (DataW H) → Nat
  | [] => 0
  | d :: r => uptoBulk d + uptoBulkAll r
def uptoBulkEntries {H : Type} : List (Lit × DataW H) → Nat
  | [] => 0
  | x :: r => uptoBulkEntry x + uptoBulkEntries r
def uptoBulkEntry {H : Type} : Lit × DataW H → Nat
  | (.string bytes, d) => bytes.length + uptoBulk d + 1
  | (_, d) => uptoBulk d + 1
 end
def uptoSmall : (H : Type) → List (DataW H) → Bool := fun _ ds => decide (uptoBulkAll ds ≤ 1048576)
def OpenSpec.upto (s : _root_.Go.ChangeSpec) : _root_.Go.OpenSpec := { _root_.Go.OpenSpec.ofChange s with cond := some uptoSmall }

/-- 'palmerlaw11.TextWords', WHERE WHAT IT READS IS OF BULK AT MOST 1048576: true; the input reads as it did. -/
def textWordsUptoRow : OpenClaim := { program := "ytbleacpdobjdaaa", sum := "6e6491000597d4cce38f3a52810a96b5729edff21b6f99d804333a72d2c61733", func := "palmer/palmerlaw11.TextWords", spec := "textWords", inPlace := ["internal/bytealg.IndexByteString", "math/bits.Add64"], unfollowed := true, recurses := true, apart := false, narrowed := true }
def TextWordsUptoSaid : Prop := textWordsUptoRow.holds Try.pinned (OpenSpec.upto textWordsSpec)

/-- 'palmerlaw11.TextNums', WHERE WHAT IT READS IS OF BULK AT MOST 1048576: true; the input reads as it did. -/
def textNumsUptoRow : OpenClaim := { program := "ytbleacpdobjdaaa", sum := "6e6491000597d4cce38f3a52810a96b5729edff21b6f99d804333a72d2c61733", func := "palmer/palmerlaw11.TextNums", spec := "textNums", inPlace := ["internal/bytealg.IndexByteString", "math/bits.Add64"], unfollowed := true, recurses := true, apart := false, narrowed := true }
def TextNumsUptoSaid : Prop := textNumsUptoRow.holds Try.pinned (OpenSpec.upto textNumsSpec)

/-- 'palmerlaw11.TextPuts', WHERE WHAT IT READS IS OF BULK AT MOST 1048576: true; the input reads as it did. -/
def textPutsUptoRow : OpenClaim := { program := "ytbleacpdobjdaaa", sum := "6e6491000597d4cce38f3a52810a96b5729edff21b6f99d804333a72d2c61733", func := "palmer/palmerlaw11.TextPuts", spec := "textPuts", inPlace := ["internal/bytealg.IndexByteString", "math/bits.Add64"], unfollowed := true, recurses := true, apart := false, narrowed := true }
def TextPutsUptoSaid : Prop := textPutsUptoRow.holds Try.pinned (OpenSpec.upto textPutsSpec)

/-- 'palmerlaw11.TextLines', WHERE WHAT IT READS IS OF BULK AT MOST 1048576: true; the input reads as it did. -/
def textLinesUptoRow : OpenClaim := { program := "ytbleacpdobjdaaa", sum := "6e6491000597d4cce38f3a52810a96b5729edff21b6f99d804333a72d2c61733", func := "palmer/palmerlaw11.TextLines", spec := "textLines", inPlace := ["internal/bytealg.IndexByteString", "math/bits.Add64"], unfollowed := true, recurses := true, apart := false, narrowed := true }
def TextLinesUptoSaid : Prop := textLinesUptoRow.holds Try.pinned (OpenSpec.upto textLinesSpec)

/-- 'palmerlaw11.TextStops', WHERE WHAT IT READS IS OF BULK AT MOST 1048576: true; the input reads as it did. -/
def textStopsUptoRow : OpenClaim := { program := "ytbleacpdobjdaaa", sum := "6e6491000597d4cce38f3a52810a96b5729edff21b6f99d804333a72d2c61733", func := "palmer/palmerlaw11.TextStops", spec := "textStops", inPlace := ["internal/bytealg.IndexByteString", "math/bits.Add64"], unfollowed := true, recurses := true, apart := false, narrowed := true }
def TextStopsUptoSaid : Prop := textStopsUptoRow.holds Try.pinned (OpenSpec.upto textStopsSpec)

/-- 'palmerlaw11.TextJoins', WHERE WHAT IT READS IS OF BULK AT MOST 1048576: true; the input reads as it did. -/
def textJoinsUptoRow : OpenClaim := { program := "ytbleacpdobjdaaa", sum := "6e6491000597d4cce38f3a52810a96b5729edff21b6f99d804333a72d2c61733", func := "palmer/palmerlaw11.TextJoins", spec := "textJoins", inPlace := ["internal/bytealg.IndexByteString", "math/bits.Add64"], unfollowed := true, recurses := true, apart := false, narrowed := true }
def TextJoinsUptoSaid : Prop := textJoinsUptoRow.holds Try.pinned (OpenSpec.upto textJoinsSpec)

/-- 'palmerlaw28.CorpusRecs', WHERE WHAT IT READS IS OF BULK AT MOST 1048576: true; the input reads as it did. -/
def corpusRecsUptoRow : OpenClaim := { program := "ytbleacpdobjdaaa", sum := "6e6491000597d4cce38f3a52810a96b5729edff21b6f99d804333a72d2c61733", func := "palmer/palmerlaw28.CorpusRecs", spec := "corpusRecs", unfollowed := true, recurses := true, apart := false, narrowed := true }
def CorpusRecsUptoSaid : Prop := corpusRecsUptoRow.holds Try.pinned (OpenSpec.upto corpusRecsSpec)

/-- 'palmerlaw28.CorpusPaths', WHERE WHAT IT READS IS OF BULK AT MOST 1048576: true; the input reads as it did. -/
def corpusPathsUptoRow : OpenClaim := { program := "ytbleacpdobjdaaa", sum := "6e6491000597d4cce38f3a52810a96b5729edff21b6f99d804333a72d2c61733", func := "palmer/palmerlaw28.CorpusPaths", spec := "corpusPaths", unfollowed := true, recurses := true, apart := false, narrowed := true }
def CorpusPathsUptoSaid : Prop := corpusPathsUptoRow.holds Try.pinned (OpenSpec.upto corpusPathsSpec)

/-- 'palmerlaw28.CorpusEach', WHERE WHAT IT READS IS OF BULK AT MOST 1048576: true; the input reads as it did. -/
def corpusEachUptoRow : OpenClaim := { program := "ytbleacpdobjdaaa", sum := "6e6491000597d4cce38f3a52810a96b5729edff21b6f99d804333a72d2c61733", func := "palmer/palmerlaw28.CorpusEach", spec := "corpusEach", unfollowed := true, recurses := true, apart := false, narrowed := true }
def CorpusEachUptoSaid : Prop := corpusEachUptoRow.holds Try.pinned (OpenSpec.upto corpusEachSpec)

/-- 'palmerlaw28.CorpusGaps', WHERE WHAT IT READS IS OF BULK AT MOST 1048576: true; the input reads as it did. -/
def corpusGapsUptoRow : OpenClaim := { program := "ytbleacpdobjdaaa", sum := "6e6491000597d4cce38f3a52810a96b5729edff21b6f99d804333a72d2c61733", func := "palmer/palmerlaw28.CorpusGaps", spec := "corpusGaps", unfollowed := true, recurses := true, apart := false, narrowed := true }
def CorpusGapsUptoSaid : Prop := corpusGapsUptoRow.holds Try.pinned (OpenSpec.upto corpusGapsSpec)

/-- 'palmerlaw28.CorpusReads', WHERE WHAT IT READS IS OF BULK AT MOST 1048576: true; the input reads as it did. -/
def corpusReadsUptoRow : OpenClaim := { program := "ytbleacpdobjdaaa", sum := "6e6491000597d4cce38f3a52810a96b5729edff21b6f99d804333a72d2c61733", func := "palmer/palmerlaw28.CorpusReads", spec := "corpusReads", inPlace := ["internal/bytealg.IndexByteString", "math/bits.Add64"], unfollowed := true, recurses := true, apart := false, narrowed := true }
def CorpusReadsUptoSaid : Prop := corpusReadsUptoRow.holds Try.pinned (OpenSpec.upto corpusReadsSpec)

/-- 'palmerlaw28.CorpusPrints', WHERE WHAT IT READS IS OF BULK AT MOST 1048576: true; the input reads as it did. -/
def corpusPrintsUptoRow : OpenClaim := { program := "ytbleacpdobjdaaa", sum := "6e6491000597d4cce38f3a52810a96b5729edff21b6f99d804333a72d2c61733", func := "palmer/palmerlaw28.CorpusPrints", spec := "corpusPrints", inPlace := ["internal/bytealg.IndexByteString", "math/bits.Add64"], unfollowed := true, recurses := true, apart := false, narrowed := true }
def CorpusPrintsUptoSaid : Prop := corpusPrintsUptoRow.holds Try.pinned (OpenSpec.upto corpusPrintsSpec)

end Rows
end Go.Proofs.Ytbleacpdobjdaaa
