/-
  No cell of these rows narrows 'for every input' (looked for: loops, veiled, ifaces, maps, wideKeys, modest, calm, conditions, laid).
  DERIVED. THE GIVEN ROWS OF THIS SEAT. 8 by the template 'for every input the law returns true; each argument reads behind the call as it read before'; 0 by the template 'total and deterministic' (their statements: YtcklfffeimnfeaaGreatTotals.lean).
  GIVEN WITH THE SEED: the statements are not yours to turn. If you find one false, say at which input.
  Laid BY PROGRAM, IN A SANDBOX (cutbox-rows.mjs): the forced cells as the released guide's own fill.sh prints them over the translation 31c732029f98f569… (all of the seat's roots in one cut). By AI agents, Wed Nov 11 2026. No macro, syntax, notation, axiom, sorry.
-/
import Derived.Test.YtcklfffeimnfeaaGreatChecked
import GoSem.Claim
import GoSem.ClaimJoined
import GoSem.ClaimMapViews
import Derived.JoinedTies
import Derived.KernelRfl
namespace Go.Proofs.YtcklfffeimnfeaaGreat
/- THE CELL 'sum', in the pinned program and in every row, IS THE sha256 OF THE DUMP (.gsa) THAT YtcklfffeimnfeaaGreatProg.lean LOADS. Nothing in Lean hashes anything: it is a label: what it is worth is what the hold of that sum in a sandbox is worth. -/
noncomputable def Tryz.pinned : Pinned := { name := "ytcklfffeimnfeaagreat", sum := "31c732029f98f5692a688af1dd1d94d444d20f26c73c1db6dd347592105b9786", checked := Tryz.checked }
namespace Rows
def none {H : Type} : Left H := { results := [], args := [] }

/-- 'palmerlaw22.WalkPaths': WHATEVER THE INPUT: true; the input reads as it did. -/
def walkPathsSpec : ChangeSpec := { name := "walkPaths", fn := fun _ => fun
  | [d1, d2, d3] => { results := [.lit (.bool true)], args := [d1, d2, d3] }
  | _ => none }
def walkPathsRow : OpenClaim := { program := "ytcklfffeimnfeaagreat", sum := "31c732029f98f5692a688af1dd1d94d444d20f26c73c1db6dd347592105b9786", func := "palmer/palmerlaw22.WalkPaths", spec := "walkPaths", inPlace := ["internal/bytealg.Compare", "slices.overlaps[int]"], unfollowed := true, recurses := true, apart := false }
def WalkPathsSaid : Prop := walkPathsRow.holds Tryz.pinned (OpenSpec.ofChange walkPathsSpec)

/-- ITS FALSE NEIGHBOUR: 'it returns false'. Refute it at one input. -/
def walkPathsWrong : ChangeSpec := { name := "walkPaths", fn := fun _ => fun
  | [d1, d2, d3] => { results := [.lit (.bool false)], args := [d1, d2, d3] }
  | _ => none }
def WalkPathsWrongFalsely : Prop := walkPathsRow.holds Tryz.pinned (OpenSpec.ofChange walkPathsWrong)

/-- 'palmerlaw22.WalkArcs': WHATEVER THE INPUT: true; the input reads as it did. -/
def walkArcsSpec : ChangeSpec := { name := "walkArcs", fn := fun _ => fun
  | [d1, d2, d3] => { results := [.lit (.bool true)], args := [d1, d2, d3] }
  | _ => none }
def walkArcsRow : OpenClaim := { program := "ytcklfffeimnfeaagreat", sum := "31c732029f98f5692a688af1dd1d94d444d20f26c73c1db6dd347592105b9786", func := "palmer/palmerlaw22.WalkArcs", spec := "walkArcs", inPlace := ["internal/bytealg.Compare", "slices.overlaps[int]"], unfollowed := true, recurses := true, apart := false }
def WalkArcsSaid : Prop := walkArcsRow.holds Tryz.pinned (OpenSpec.ofChange walkArcsSpec)

/-- ITS FALSE NEIGHBOUR: 'it returns false'. Refute it at one input. -/
def walkArcsWrong : ChangeSpec := { name := "walkArcs", fn := fun _ => fun
  | [d1, d2, d3] => { results := [.lit (.bool false)], args := [d1, d2, d3] }
  | _ => none }
def WalkArcsWrongFalsely : Prop := walkArcsRow.holds Tryz.pinned (OpenSpec.ofChange walkArcsWrong)

/-- 'palmerlaw22.WalkLonger': WHATEVER THE INPUT: true; the input reads as it did. -/
def walkLongerSpec : ChangeSpec := { name := "walkLonger", fn := fun _ => fun
  | [d1, d2, d3, d4, d5, d6] => { results := [.lit (.bool true)], args := [d1, d2, d3, d4, d5, d6] }
  | _ => none }
def walkLongerRow : OpenClaim := { program := "ytcklfffeimnfeaagreat", sum := "31c732029f98f5692a688af1dd1d94d444d20f26c73c1db6dd347592105b9786", func := "palmer/palmerlaw22.WalkLonger", spec := "walkLonger", inPlace := ["internal/bytealg.Compare", "slices.overlaps[int]"], unfollowed := true, recurses := true, apart := false }
def WalkLongerSaid : Prop := walkLongerRow.holds Tryz.pinned (OpenSpec.ofChange walkLongerSpec)

/-- ITS FALSE NEIGHBOUR: 'it returns false'. Refute it at one input. -/
def walkLongerWrong : ChangeSpec := { name := "walkLonger", fn := fun _ => fun
  | [d1, d2, d3, d4, d5, d6] => { results := [.lit (.bool false)], args := [d1, d2, d3, d4, d5, d6] }
  | _ => none }
def WalkLongerWrongFalsely : Prop := walkLongerRow.holds Tryz.pinned (OpenSpec.ofChange walkLongerWrong)

/-- 'palmerlaw22.WalkPlain': WHATEVER THE INPUT: true; the input reads as it did. -/
def walkPlainSpec : ChangeSpec := { name := "walkPlain", fn := fun _ => fun
  | [d1, d2, d3] => { results := [.lit (.bool true)], args := [d1, d2, d3] }
  | _ => none }
def walkPlainRow : OpenClaim := { program := "ytcklfffeimnfeaagreat", sum := "31c732029f98f5692a688af1dd1d94d444d20f26c73c1db6dd347592105b9786", func := "palmer/palmerlaw22.WalkPlain", spec := "walkPlain", inPlace := ["internal/bytealg.Compare", "slices.overlaps[int]"], unfollowed := true, recurses := true, apart := false }
def WalkPlainSaid : Prop := walkPlainRow.holds Tryz.pinned (OpenSpec.ofChange walkPlainSpec)

/-- ITS FALSE NEIGHBOUR: 'it returns false'. Refute it at one input. -/
def walkPlainWrong : ChangeSpec := { name := "walkPlain", fn := fun _ => fun
  | [d1, d2, d3] => { results := [.lit (.bool false)], args := [d1, d2, d3] }
  | _ => none }
def WalkPlainWrongFalsely : Prop := walkPlainRow.holds Tryz.pinned (OpenSpec.ofChange walkPlainWrong)

/-- 'palmerlaw22.WalkElsewhere': WHATEVER THE INPUT: true; the input reads as it did. -/
def walkElsewhereSpec : ChangeSpec := { name := "walkElsewhere", fn := fun _ => fun
  | [d1, d2, d3, d4] => { results := [.lit (.bool true)], args := [d1, d2, d3, d4] }
  | _ => none }
def walkElsewhereRow : OpenClaim := { program := "ytcklfffeimnfeaagreat", sum := "31c732029f98f5692a688af1dd1d94d444d20f26c73c1db6dd347592105b9786", func := "palmer/palmerlaw22.WalkElsewhere", spec := "walkElsewhere", inPlace := ["internal/bytealg.Compare", "slices.overlaps[int]"], unfollowed := true, recurses := true, apart := false }
def WalkElsewhereSaid : Prop := walkElsewhereRow.holds Tryz.pinned (OpenSpec.ofChange walkElsewhereSpec)

/-- ITS FALSE NEIGHBOUR: 'it returns false'. Refute it at one input. -/
def walkElsewhereWrong : ChangeSpec := { name := "walkElsewhere", fn := fun _ => fun
  | [d1, d2, d3, d4] => { results := [.lit (.bool false)], args := [d1, d2, d3, d4] }
  | _ => none }
def WalkElsewhereWrongFalsely : Prop := walkElsewhereRow.holds Tryz.pinned (OpenSpec.ofChange walkElsewhereWrong)

/-- 'palmerlaw22.WalkCycle': WHATEVER THE INPUT: true; the input reads as it did. -/
def walkCycleSpec : ChangeSpec := { name := "walkCycle", fn := fun _ => fun
  | [d1, d2, d3, d4] => { results := [.lit (.bool true)], args := [d1, d2, d3, d4] }
  | _ => none }
def walkCycleRow : OpenClaim := { program := "ytcklfffeimnfeaagreat", sum := "31c732029f98f5692a688af1dd1d94d444d20f26c73c1db6dd347592105b9786", func := "palmer/palmerlaw22.WalkCycle", spec := "walkCycle", inPlace := ["internal/bytealg.Compare", "slices.overlaps[int]"], unfollowed := true, recurses := true, apart := false }
def WalkCycleSaid : Prop := walkCycleRow.holds Tryz.pinned (OpenSpec.ofChange walkCycleSpec)

/-- ITS FALSE NEIGHBOUR: 'it returns false'. Refute it at one input. -/
def walkCycleWrong : ChangeSpec := { name := "walkCycle", fn := fun _ => fun
  | [d1, d2, d3, d4] => { results := [.lit (.bool false)], args := [d1, d2, d3, d4] }
  | _ => none }
def WalkCycleWrongFalsely : Prop := walkCycleRow.holds Tryz.pinned (OpenSpec.ofChange walkCycleWrong)

/-- 'palmerlaw22.WalkAll': WHATEVER THE INPUT: true; the input reads as it did. -/
def walkAllSpec : ChangeSpec := { name := "walkAll", fn := fun _ => fun
  | [d1, d2, d3] => { results := [.lit (.bool true)], args := [d1, d2, d3] }
  | _ => none }
def walkAllRow : OpenClaim := { program := "ytcklfffeimnfeaagreat", sum := "31c732029f98f5692a688af1dd1d94d444d20f26c73c1db6dd347592105b9786", func := "palmer/palmerlaw22.WalkAll", spec := "walkAll", inPlace := ["internal/bytealg.Compare", "slices.overlaps[int]"], unfollowed := true, recurses := true, apart := false }
def WalkAllSaid : Prop := walkAllRow.holds Tryz.pinned (OpenSpec.ofChange walkAllSpec)

/-- ITS FALSE NEIGHBOUR: 'it returns false'. Refute it at one input. -/
def walkAllWrong : ChangeSpec := { name := "walkAll", fn := fun _ => fun
  | [d1, d2, d3] => { results := [.lit (.bool false)], args := [d1, d2, d3] }
  | _ => none }
def WalkAllWrongFalsely : Prop := walkAllRow.holds Tryz.pinned (OpenSpec.ofChange walkAllWrong)

/-- 'palmerlaw22.WalkMoves': WHATEVER THE INPUT: true; the input reads as it did. -/
def walkMovesSpec : ChangeSpec := { name := "walkMoves", fn := fun _ => fun
  | [d1, d2, d3] => { results := [.lit (.bool true)], args := [d1, d2, d3] }
  | _ => none }
def walkMovesRow : OpenClaim := { program := "ytcklfffeimnfeaagreat", sum := "31c732029f98f5692a688af1dd1d94d444d20f26c73c1db6dd347592105b9786", func := "palmer/palmerlaw22.WalkMoves", spec := "walkMoves", inPlace := ["internal/bytealg.Compare", "slices.overlaps[int]"], unfollowed := true, recurses := true, apart := false }
def WalkMovesSaid : Prop := walkMovesRow.holds Tryz.pinned (OpenSpec.ofChange walkMovesSpec)

/-- ITS FALSE NEIGHBOUR: 'it returns false'. Refute it at one input. -/
def walkMovesWrong : ChangeSpec := { name := "walkMoves", fn := fun _ => fun
  | [d1, d2, d3] => { results := [.lit (.bool false)], args := [d1, d2, d3] }
  | _ => none }
def WalkMovesWrongFalsely : Prop := walkMovesRow.holds Tryz.pinned (OpenSpec.ofChange walkMovesWrong)

/- THE SECOND FORM. 'bulk': how many values and letters a reading holds, each counted each time it is reached (what is shared counts as often as it is met; a slice's spare places count too). A statement '..UptoSaid' is the law's where the arguments, and the package variables that the reading takes, are together of bulk at most 1048576: NARROWER than '..Said'. Prove '..Said' where nothing that the law and all that it calls make is longer than what came in: it says more and counts as full. Else prove '..UptoSaid'. A law counts once. -/
mutual
def uptoBulk {H : Type} : DataW H → Nat
  | .lit (.string bytes) => bytes.length + 1
  | .lit _ => 1
  | .nil => 1
  | .ptr d => uptoBulk d + 1
  | .slice elems spare => uptoBulkAll elems + uptoBulkAll spare + 1
  | .agg parts => uptoBulkAll parts + 1
  | .iface _ d => uptoBulk d + 1
  | .map entries => uptoBulkEntries entries + 1
  | .held _ => 1
def uptoBulkAll {H : Type} : List (DataW H) → Nat
  | [] => 0
  | d :: r => uptoBulk d + uptoBulkAll r
def uptoBulkEntries {H : Type} : List (Lit × DataW H) → Nat
  | [] => 0
  | x :: r => uptoBulkEntry x + uptoBulkEntries r
def uptoBulkEntry {H : Type} : Lit × DataW H → Nat
  | (.string bytes, d) => bytes.length + uptoBulk d + 1
  | (_, d) => uptoBulk d + 1
 end
def uptoSmall : (H : Type) → List (DataW H) → Bool := fun _ ds => decide (uptoBulkAll ds ≤ 1048576)
def OpenSpec.upto (s : _root_.Go.ChangeSpec) : _root_.Go.OpenSpec := { _root_.Go.OpenSpec.ofChange s with cond := some uptoSmall }

/-- 'palmerlaw22.WalkPaths', WHERE WHAT IT READS IS OF BULK AT MOST 1048576: true; the input reads as it did. -/
def walkPathsUptoRow : OpenClaim := { program := "ytcklfffeimnfeaagreat", sum := "31c732029f98f5692a688af1dd1d94d444d20f26c73c1db6dd347592105b9786", func := "palmer/palmerlaw22.WalkPaths", spec := "walkPaths", inPlace := ["internal/bytealg.Compare", "slices.overlaps[int]"], unfollowed := true, recurses := true, apart := false, narrowed := true }
def WalkPathsUptoSaid : Prop := walkPathsUptoRow.holds Tryz.pinned (OpenSpec.upto walkPathsSpec)

/-- 'palmerlaw22.WalkArcs', WHERE WHAT IT READS IS OF BULK AT MOST 1048576: true; the input reads as it did. -/
def walkArcsUptoRow : OpenClaim := { program := "ytcklfffeimnfeaagreat", sum := "31c732029f98f5692a688af1dd1d94d444d20f26c73c1db6dd347592105b9786", func := "palmer/palmerlaw22.WalkArcs", spec := "walkArcs", inPlace := ["internal/bytealg.Compare", "slices.overlaps[int]"], unfollowed := true, recurses := true, apart := false, narrowed := true }
def WalkArcsUptoSaid : Prop := walkArcsUptoRow.holds Tryz.pinned (OpenSpec.upto walkArcsSpec)

/-- 'palmerlaw22.WalkLonger', WHERE WHAT IT READS IS OF BULK AT MOST 1048576: true; the input reads as it did. -/
def walkLongerUptoRow : OpenClaim := { program := "ytcklfffeimnfeaagreat", sum := "31c732029f98f5692a688af1dd1d94d444d20f26c73c1db6dd347592105b9786", func := "palmer/palmerlaw22.WalkLonger", spec := "walkLonger", inPlace := ["internal/bytealg.Compare", "slices.overlaps[int]"], unfollowed := true, recurses := true, apart := false, narrowed := true }
def WalkLongerUptoSaid : Prop := walkLongerUptoRow.holds Tryz.pinned (OpenSpec.upto walkLongerSpec)

/-- 'palmerlaw22.WalkPlain', WHERE WHAT IT READS IS OF BULK AT MOST 1048576: true; the input reads as it did. -/
def walkPlainUptoRow : OpenClaim := { program := "ytcklfffeimnfeaagreat", sum := "31c732029f98f5692a688af1dd1d94d444d20f26c73c1db6dd347592105b9786", func := "palmer/palmerlaw22.WalkPlain", spec := "walkPlain", inPlace := ["internal/bytealg.Compare", "slices.overlaps[int]"], unfollowed := true, recurses := true, apart := false, narrowed := true }
def WalkPlainUptoSaid : Prop := walkPlainUptoRow.holds Tryz.pinned (OpenSpec.upto walkPlainSpec)

/-- 'palmerlaw22.WalkElsewhere', WHERE WHAT IT READS IS OF BULK AT MOST 1048576: true; the input reads as it did. -/
def walkElsewhereUptoRow : OpenClaim := { program := "ytcklfffeimnfeaagreat", sum := "31c732029f98f5692a688af1dd1d94d444d20f26c73c1db6dd347592105b9786", func := "palmer/palmerlaw22.WalkElsewhere", spec := "walkElsewhere", inPlace := ["internal/bytealg.Compare", "slices.overlaps[int]"], unfollowed := true, recurses := true, apart := false, narrowed := true }
def WalkElsewhereUptoSaid : Prop := walkElsewhereUptoRow.holds Tryz.pinned (OpenSpec.upto walkElsewhereSpec)

/-- 'palmerlaw22.WalkCycle', WHERE WHAT IT READS IS OF BULK AT MOST 1048576: true; the input reads as it did. -/
def walkCycleUptoRow : OpenClaim := { program := "ytcklfffeimnfeaagreat", sum := "31c732029f98f5692a688af1dd1d94d444d20f26c73c1db6dd347592105b9786", func := "palmer/palmerlaw22.WalkCycle", spec := "walkCycle", inPlace := ["internal/bytealg.Compare", "slices.overlaps[int]"], unfollowed := true, recurses := true, apart := false, narrowed := true }
def WalkCycleUptoSaid : Prop := walkCycleUptoRow.holds Tryz.pinned (OpenSpec.upto walkCycleSpec)

/-- 'palmerlaw22.WalkAll', WHERE WHAT IT READS IS OF BULK AT MOST 1048576: true; the input reads as it did. -/
def walkAllUptoRow : OpenClaim := { program := "ytcklfffeimnfeaagreat", sum := "31c732029f98f5692a688af1dd1d94d444d20f26c73c1db6dd347592105b9786", func := "palmer/palmerlaw22.WalkAll", spec := "walkAll", inPlace := ["internal/bytealg.Compare", "slices.overlaps[int]"], unfollowed := true, recurses := true, apart := false, narrowed := true }
def WalkAllUptoSaid : Prop := walkAllUptoRow.holds Tryz.pinned (OpenSpec.upto walkAllSpec)

/-- 'palmerlaw22.WalkMoves', WHERE WHAT IT READS IS OF BULK AT MOST 1048576: true; the input reads as it did. -/
def walkMovesUptoRow : OpenClaim := { program := "ytcklfffeimnfeaagreat", sum := "31c732029f98f5692a688af1dd1d94d444d20f26c73c1db6dd347592105b9786", func := "palmer/palmerlaw22.WalkMoves", spec := "walkMoves", inPlace := ["internal/bytealg.Compare", "slices.overlaps[int]"], unfollowed := true, recurses := true, apart := false, narrowed := true }
def WalkMovesUptoSaid : Prop := walkMovesUptoRow.holds Tryz.pinned (OpenSpec.upto walkMovesSpec)

end Rows
end Go.Proofs.YtcklfffeimnfeaaGreat
