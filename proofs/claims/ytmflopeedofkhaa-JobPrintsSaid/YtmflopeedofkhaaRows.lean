/-
  No cell of these rows narrows 'for every input' (looked for: loops, veiled, ifaces, maps, wideKeys, modest, calm, conditions, laid).
  DERIVED. THE GIVEN ROWS OF THIS SEAT. 5 by the template 'for every input the law returns true; each argument reads behind the call as it read before'; 0 by the template 'total and deterministic' (their statements: YtmflopeedofkhaaTotals.lean).
  GIVEN WITH THE SEED: the statements are not yours to turn. If you find one false, say at which input.
  Laid BY PROGRAM, IN A SANDBOX (cutbox-rows.mjs): the forced cells as the released guide's own fill.sh prints them over the translation 8735f29513fbf6eb… (all of the seat's roots in one cut). By AI agents, Wed Nov 11 2026. No macro, syntax, notation, axiom, sorry.
-/
import Derived.Test.YtmflopeedofkhaaChecked
import GoSem.Claim
import GoSem.ClaimJoined
import GoSem.ClaimMapViews
import Derived.JoinedTies
import Derived.KernelRfl
namespace Go.Proofs.Ytmflopeedofkhaa
/- THE CELL 'sum', in the pinned program and in every row, IS THE sha256 OF THE DUMP (.gsa) THAT YtmflopeedofkhaaProg.lean LOADS. Nothing in Lean hashes anything: it is a label: what it is worth is what the hold of that sum in a sandbox is worth. -/
noncomputable def Try.pinned : Pinned := { name := "ytmflopeedofkhaa", sum := "8735f29513fbf6eb46e15ff9bfcba07a597c9ff176ddc8876b41a5cb4538b2cf", checked := Try.checked }
namespace Rows
def none {H : Type} : Left H := { results := [], args := [] }

/-- 'palmerlaw19.JobReads': WHATEVER THE INPUT: true; the input reads as it did. -/
def jobReadsSpec : ChangeSpec := { name := "jobReads", fn := fun _ => fun
  | [d] => { results := [.lit (.bool true)], args := [d] }
  | _ => none }
def jobReadsRow : OpenClaim := { program := "ytmflopeedofkhaa", sum := "8735f29513fbf6eb46e15ff9bfcba07a597c9ff176ddc8876b41a5cb4538b2cf", func := "palmer/palmerlaw19.JobReads", spec := "jobReads", inPlace := ["math/bits.Add64", "internal/bytealg.IndexByteString"], unfollowed := true, recurses := true, apart := false }
def JobReadsSaid : Prop := jobReadsRow.holds Try.pinned (OpenSpec.ofChange jobReadsSpec)

/-- ITS FALSE NEIGHBOUR: 'it returns false'. Refute it at one input. -/
def jobReadsWrong : ChangeSpec := { name := "jobReads", fn := fun _ => fun
  | [d] => { results := [.lit (.bool false)], args := [d] }
  | _ => none }
def JobReadsWrongFalsely : Prop := jobReadsRow.holds Try.pinned (OpenSpec.ofChange jobReadsWrong)

/-- 'palmerlaw19.JobOrder': WHATEVER THE INPUT: true; the input reads as it did. -/
def jobOrderSpec : ChangeSpec := { name := "jobOrder", fn := fun _ => fun
  | [d1, d2, d3] => { results := [.lit (.bool true)], args := [d1, d2, d3] }
  | _ => none }
def jobOrderRow : OpenClaim := { program := "ytmflopeedofkhaa", sum := "8735f29513fbf6eb46e15ff9bfcba07a597c9ff176ddc8876b41a5cb4538b2cf", func := "palmer/palmerlaw19.JobOrder", spec := "jobOrder", inPlace := ["math/bits.Add64", "internal/bytealg.IndexByteString"], unfollowed := true, recurses := true, apart := false }
def JobOrderSaid : Prop := jobOrderRow.holds Try.pinned (OpenSpec.ofChange jobOrderSpec)

/-- ITS FALSE NEIGHBOUR: 'it returns false'. Refute it at one input. -/
def jobOrderWrong : ChangeSpec := { name := "jobOrder", fn := fun _ => fun
  | [d1, d2, d3] => { results := [.lit (.bool false)], args := [d1, d2, d3] }
  | _ => none }
def JobOrderWrongFalsely : Prop := jobOrderRow.holds Try.pinned (OpenSpec.ofChange jobOrderWrong)

/-- 'palmerlaw19.JobTwice': WHATEVER THE INPUT: true; the input reads as it did. -/
def jobTwiceSpec : ChangeSpec := { name := "jobTwice", fn := fun _ => fun
  | [d1, d2] => { results := [.lit (.bool true)], args := [d1, d2] }
  | _ => none }
def jobTwiceRow : OpenClaim := { program := "ytmflopeedofkhaa", sum := "8735f29513fbf6eb46e15ff9bfcba07a597c9ff176ddc8876b41a5cb4538b2cf", func := "palmer/palmerlaw19.JobTwice", spec := "jobTwice", inPlace := ["math/bits.Add64", "internal/bytealg.IndexByteString"], unfollowed := true, recurses := true, apart := false }
def JobTwiceSaid : Prop := jobTwiceRow.holds Try.pinned (OpenSpec.ofChange jobTwiceSpec)

/-- ITS FALSE NEIGHBOUR: 'it returns false'. Refute it at one input. -/
def jobTwiceWrong : ChangeSpec := { name := "jobTwice", fn := fun _ => fun
  | [d1, d2] => { results := [.lit (.bool false)], args := [d1, d2] }
  | _ => none }
def JobTwiceWrongFalsely : Prop := jobTwiceRow.holds Try.pinned (OpenSpec.ofChange jobTwiceWrong)

/-- 'palmerlaw19.JobLeft': WHATEVER THE INPUT: true; the input reads as it did. -/
def jobLeftSpec : ChangeSpec := { name := "jobLeft", fn := fun _ => fun
  | [d1, d2] => { results := [.lit (.bool true)], args := [d1, d2] }
  | _ => none }
def jobLeftRow : OpenClaim := { program := "ytmflopeedofkhaa", sum := "8735f29513fbf6eb46e15ff9bfcba07a597c9ff176ddc8876b41a5cb4538b2cf", func := "palmer/palmerlaw19.JobLeft", spec := "jobLeft", inPlace := ["math/bits.Add64", "internal/bytealg.IndexByteString"], unfollowed := true, recurses := true, apart := false }
def JobLeftSaid : Prop := jobLeftRow.holds Try.pinned (OpenSpec.ofChange jobLeftSpec)

/-- ITS FALSE NEIGHBOUR: 'it returns false'. Refute it at one input. -/
def jobLeftWrong : ChangeSpec := { name := "jobLeft", fn := fun _ => fun
  | [d1, d2] => { results := [.lit (.bool false)], args := [d1, d2] }
  | _ => none }
def JobLeftWrongFalsely : Prop := jobLeftRow.holds Try.pinned (OpenSpec.ofChange jobLeftWrong)

/-- 'palmerlaw19.JobPrints': WHATEVER THE INPUT: true; the input reads as it did. -/
def jobPrintsSpec : ChangeSpec := { name := "jobPrints", fn := fun _ => fun
  | [d] => { results := [.lit (.bool true)], args := [d] }
  | _ => none }
def jobPrintsRow : OpenClaim := { program := "ytmflopeedofkhaa", sum := "8735f29513fbf6eb46e15ff9bfcba07a597c9ff176ddc8876b41a5cb4538b2cf", func := "palmer/palmerlaw19.JobPrints", spec := "jobPrints", inPlace := ["math/bits.Add64", "internal/bytealg.IndexByteString", "internal/abi.NoEscape", "internal/bytealg.MakeNoZero"], unfollowed := true, recurses := true, apart := false }
def JobPrintsSaid : Prop := jobPrintsRow.holds Try.pinned (OpenSpec.ofChange jobPrintsSpec)

/-- ITS FALSE NEIGHBOUR: 'it returns false'. Refute it at one input. -/
def jobPrintsWrong : ChangeSpec := { name := "jobPrints", fn := fun _ => fun
  | [d] => { results := [.lit (.bool false)], args := [d] }
  | _ => none }
def JobPrintsWrongFalsely : Prop := jobPrintsRow.holds Try.pinned (OpenSpec.ofChange jobPrintsWrong)

/- THE SECOND FORM. 'bulk': how many values and letters a reading holds, each counted each time it is reached (what is shared counts as often as it is met; a slice's spare places count too). A statement '..UptoSaid' is the law's where the arguments, and the package variables that the reading takes, are together of bulk at most 1048576: NARROWER than '..Said'. Prove '..Said' where nothing that the law and all that it calls make is longer than what came in: it says more and counts as full. Else prove '..UptoSaid'. A law counts once. -/
mutual
def uptoBulk {H : Type} : DataW H → Nat
  | .lit (.string bytes) => bytes.length + 1
  | .lit _ => 1
  | .nil => 1
  | .ptr d => uptoBulk d + 1
  | .slice elems spare => uptoBulkAll elems + uptoBulkAll spare + 1
  | .agg parts => uptoBulkAll parts + 1
  | .iface _ d => uptoBulk d + 1
  | .map entries => uptoBulkEntries entries + 1
  | .held _ => 1
def uptoBulkAll {H : Type} : List (DataW H) → Nat
  | [] => 0
  | d :: r => uptoBulk d + uptoBulkAll r
def uptoBulkEntries {H : Type} : List (Lit × DataW H) → Nat
  | [] => 0
  | x :: r => uptoBulkEntry x + uptoBulkEntries r
def uptoBulkEntry {H : Type} : Lit × DataW H → Nat
  | (.string bytes, d) => bytes.length + uptoBulk d + 1
  | (_, d) => uptoBulk d + 1
 end
def uptoSmall : (H : Type) → List (DataW H) → Bool := fun _ ds => decide (uptoBulkAll ds ≤ 1048576)
def OpenSpec.upto (s : _root_.Go.ChangeSpec) : _root_.Go.OpenSpec := { _root_.Go.OpenSpec.ofChange s with cond := some uptoSmall }

/-- 'palmerlaw19.JobReads', WHERE WHAT IT READS IS OF BULK AT MOST 1048576: true; the input reads as it did. -/
def jobReadsUptoRow : OpenClaim := { program := "ytmflopeedofkhaa", sum := "8735f29513fbf6eb46e15ff9bfcba07a597c9ff176ddc8876b41a5cb4538b2cf", func := "palmer/palmerlaw19.JobReads", spec := "jobReads", inPlace := ["math/bits.Add64", "internal/bytealg.IndexByteString"], unfollowed := true, recurses := true, apart := false, narrowed := true }
def JobReadsUptoSaid : Prop := jobReadsUptoRow.holds Try.pinned (OpenSpec.upto jobReadsSpec)

/-- 'palmerlaw19.JobOrder', WHERE WHAT IT READS IS OF BULK AT MOST 1048576: true; the input reads as it did. -/
def jobOrderUptoRow : OpenClaim := { program := "ytmflopeedofkhaa", sum := "8735f29513fbf6eb46e15ff9bfcba07a597c9ff176ddc8876b41a5cb4538b2cf", func := "palmer/palmerlaw19.JobOrder", spec := "jobOrder", inPlace := ["math/bits.Add64", "internal/bytealg.IndexByteString"], unfollowed := true, recurses := true, apart := false, narrowed := true }
def JobOrderUptoSaid : Prop := jobOrderUptoRow.holds Try.pinned (OpenSpec.upto jobOrderSpec)

/-- 'palmerlaw19.JobTwice', WHERE WHAT IT READS IS OF BULK AT MOST 1048576: true; the input reads as it did. -/
def jobTwiceUptoRow : OpenClaim := { program := "ytmflopeedofkhaa", sum := "8735f29513fbf6eb46e15ff9bfcba07a597c9ff176ddc8876b41a5cb4538b2cf", func := "palmer/palmerlaw19.JobTwice", spec := "jobTwice", inPlace := ["math/bits.Add64", "internal/bytealg.IndexByteString"], unfollowed := true, recurses := true, apart := false, narrowed := true }
def JobTwiceUptoSaid : Prop := jobTwiceUptoRow.holds Try.pinned (OpenSpec.upto jobTwiceSpec)

/-- 'palmerlaw19.JobLeft', WHERE WHAT IT READS IS OF BULK AT MOST 1048576: true; the input reads as it did. -/
def jobLeftUptoRow : OpenClaim := { program := "ytmflopeedofkhaa", sum := "8735f29513fbf6eb46e15ff9bfcba07a597c9ff176ddc8876b41a5cb4538b2cf", func := "palmer/palmerlaw19.JobLeft", spec := "jobLeft", inPlace := ["math/bits.Add64", "internal/bytealg.IndexByteString"], unfollowed := true, recurses := true, apart := false, narrowed := true }
def JobLeftUptoSaid : Prop := jobLeftUptoRow.holds Try.pinned (OpenSpec.upto jobLeftSpec)

/-- 'palmerlaw19.JobPrints', WHERE WHAT IT READS IS OF BULK AT MOST 1048576: true; the input reads as it did. -/
def jobPrintsUptoRow : OpenClaim := { program := "ytmflopeedofkhaa", sum := "8735f29513fbf6eb46e15ff9bfcba07a597c9ff176ddc8876b41a5cb4538b2cf", func := "palmer/palmerlaw19.JobPrints", spec := "jobPrints", inPlace := ["math/bits.Add64", "internal/bytealg.IndexByteString", "internal/abi.NoEscape", "internal/bytealg.MakeNoZero"], unfollowed := true, recurses := true, apart := false, narrowed := true }
def JobPrintsUptoSaid : Prop := jobPrintsUptoRow.holds Try.pinned (OpenSpec.upto jobPrintsSpec)

end Rows
end Go.Proofs.Ytmflopeedofkhaa
