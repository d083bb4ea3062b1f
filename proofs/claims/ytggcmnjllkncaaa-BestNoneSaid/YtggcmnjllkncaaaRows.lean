/-
  No cell of these rows narrows 'for every input' (looked for: loops, veiled, ifaces, maps, wideKeys, modest, calm, conditions, laid).
  DERIVED. THE GIVEN ROWS OF THIS SEAT. 4 by the template 'for every input the law returns true; each argument reads behind the call as it read before'; 0 by the template 'total and deterministic' (their statements: YtggcmnjllkncaaaTotals.lean).
  GIVEN WITH THE SEED: the statements are not yours to turn. If you find one false, say at which input.
  Laid BY PROGRAM, IN A SANDBOX (cutbox-rows.mjs): the forced cells as the released guide's own fill.sh prints them over the translation 1f0189b9a29ef400… (all of the seat's roots in one cut). By AI agents, Wed Nov 11 2026. No macro, syntax, notation, axiom, sorry.
-/
import Derived.Test.YtggcmnjllkncaaaChecked
import GoSem.Claim
import GoSem.ClaimJoined
import GoSem.ClaimMapViews
import Derived.JoinedTies
import Derived.KernelRfl
namespace Go.Proofs.Ytggcmnjllkncaaa
/- THE CELL 'sum', in the pinned program and in every row, IS THE sha256 OF THE DUMP (.gsa) THAT YtggcmnjllkncaaaProg.lean LOADS. Nothing in Lean hashes anything: it is a label: what it is worth is what the hold of that sum in a sandbox is worth. -/
noncomputable def Try.pinned : Pinned := { name := "ytggcmnjllkncaaa", sum := "1f0189b9a29ef400b847008ab0323c45db016aed3d4e860258f84dcedcc1cbd3", checked := Try.checked }
namespace Rows
def none {H : Type} : Left H := { results := [], args := [] }

/-- 'palmerlaw29.BestKeeps': WHATEVER THE INPUT: true; the input reads as it did. -/
def bestKeepsSpec : ChangeSpec := { name := "bestKeeps", fn := fun _ => fun
  | [d1, d2, d3] => { results := [.lit (.bool true)], args := [d1, d2, d3] }
  | _ => none }
def bestKeepsRow : OpenClaim := { program := "ytggcmnjllkncaaa", sum := "1f0189b9a29ef400b847008ab0323c45db016aed3d4e860258f84dcedcc1cbd3", func := "palmer/palmerlaw29.BestKeeps", spec := "bestKeeps", unfollowed := true, recurses := true, apart := false }
def BestKeepsSaid : Prop := bestKeepsRow.holds Try.pinned (OpenSpec.ofChange bestKeepsSpec)

/-- ITS FALSE NEIGHBOUR: 'it returns false'. Refute it at one input. -/
def bestKeepsWrong : ChangeSpec := { name := "bestKeeps", fn := fun _ => fun
  | [d1, d2, d3] => { results := [.lit (.bool false)], args := [d1, d2, d3] }
  | _ => none }
def BestKeepsWrongFalsely : Prop := bestKeepsRow.holds Try.pinned (OpenSpec.ofChange bestKeepsWrong)

/-- 'palmerlaw29.BestEach': WHATEVER THE INPUT: true; the input reads as it did. -/
def bestEachSpec : ChangeSpec := { name := "bestEach", fn := fun _ => fun
  | [d1, d2] => { results := [.lit (.bool true)], args := [d1, d2] }
  | _ => none }
def bestEachRow : OpenClaim := { program := "ytggcmnjllkncaaa", sum := "1f0189b9a29ef400b847008ab0323c45db016aed3d4e860258f84dcedcc1cbd3", func := "palmer/palmerlaw29.BestEach", spec := "bestEach", unfollowed := true, recurses := true, apart := false }
def BestEachSaid : Prop := bestEachRow.holds Try.pinned (OpenSpec.ofChange bestEachSpec)

/-- ITS FALSE NEIGHBOUR: 'it returns false'. Refute it at one input. -/
def bestEachWrong : ChangeSpec := { name := "bestEach", fn := fun _ => fun
  | [d1, d2] => { results := [.lit (.bool false)], args := [d1, d2] }
  | _ => none }
def BestEachWrongFalsely : Prop := bestEachRow.holds Try.pinned (OpenSpec.ofChange bestEachWrong)

/-- 'palmerlaw29.BestOrder': WHATEVER THE INPUT: true; the input reads as it did. -/
def bestOrderSpec : ChangeSpec := { name := "bestOrder", fn := fun _ => fun
  | [d1, d2, d3, d4, d5] => { results := [.lit (.bool true)], args := [d1, d2, d3, d4, d5] }
  | _ => none }
def bestOrderRow : OpenClaim := { program := "ytggcmnjllkncaaa", sum := "1f0189b9a29ef400b847008ab0323c45db016aed3d4e860258f84dcedcc1cbd3", func := "palmer/palmerlaw29.BestOrder", spec := "bestOrder", unfollowed := true, recurses := true, apart := false }
def BestOrderSaid : Prop := bestOrderRow.holds Try.pinned (OpenSpec.ofChange bestOrderSpec)

/-- ITS FALSE NEIGHBOUR: 'it returns false'. Refute it at one input. -/
def bestOrderWrong : ChangeSpec := { name := "bestOrder", fn := fun _ => fun
  | [d1, d2, d3, d4, d5] => { results := [.lit (.bool false)], args := [d1, d2, d3, d4, d5] }
  | _ => none }
def BestOrderWrongFalsely : Prop := bestOrderRow.holds Try.pinned (OpenSpec.ofChange bestOrderWrong)

/-- 'palmerlaw29.BestNone': WHATEVER THE INPUT: true; the input reads as it did. -/
def bestNoneSpec : ChangeSpec := { name := "bestNone", fn := fun _ => fun
  | [d1, d2] => { results := [.lit (.bool true)], args := [d1, d2] }
  | _ => none }
def bestNoneRow : OpenClaim := { program := "ytggcmnjllkncaaa", sum := "1f0189b9a29ef400b847008ab0323c45db016aed3d4e860258f84dcedcc1cbd3", func := "palmer/palmerlaw29.BestNone", spec := "bestNone", unfollowed := true, recurses := true, apart := false }
def BestNoneSaid : Prop := bestNoneRow.holds Try.pinned (OpenSpec.ofChange bestNoneSpec)

/-- ITS FALSE NEIGHBOUR: 'it returns false'. Refute it at one input. -/
def bestNoneWrong : ChangeSpec := { name := "bestNone", fn := fun _ => fun
  | [d1, d2] => { results := [.lit (.bool false)], args := [d1, d2] }
  | _ => none }
def BestNoneWrongFalsely : Prop := bestNoneRow.holds Try.pinned (OpenSpec.ofChange bestNoneWrong)

/- THE SECOND FORM. 'bulk': how many values and letters a reading holds, each counted each time it is reached (what is shared counts as often as it is met; a slice's spare places count too). A statement '..UptoSaid' is the law's where the arguments, and the package variables that the reading takes, are together of bulk at most 1048576: NARROWER than '..Said'. Prove '..Said' where nothing that the law and all that it calls make is longer than what came in: it says more and counts as full. Else prove '..UptoSaid'. A law counts once. -/
mutual
def uptoBulk {H : Type} : DataW H → Nat
  | .lit (.string bytes) => bytes.length + 1
  | .lit _ => 1
  | .nil => 1
  | .ptr d => uptoBulk d + 1
  | .slice elems spare => uptoBulkAll elems + uptoBulkAll spare + 1
  | .agg parts => uptoBulkAll parts + 1
  | .iface _ d => uptoBulk d + 1
  | .map entries => uptoBulkEntries entries + 1
  | .held _ => 1
def uptoBulkAll {H : Type} : List (DataW H) → Nat
  | [] => 0
  | d :: r => uptoBulk d + uptoBulkAll r
def uptoBulkEntries {H : Type} : List (Lit × DataW H) → Nat
  | [] => 0
  | x :: r => uptoBulkEntry x + uptoBulkEntries r
def uptoBulkEntry {H : Type} : Lit × DataW H → Nat
  | (.string bytes, d) => bytes.length + uptoBulk d + 1
  | (_, d) => uptoBulk d + 1
 end
def uptoSmall : (H : Type) → List (DataW H) → Bool := fun _ ds => decide (uptoBulkAll ds ≤ 1048576)
def OpenSpec.upto (s : _root_.Go.ChangeSpec) : _root_.Go.OpenSpec := { _root_.Go.OpenSpec.ofChange s with cond := some uptoSmall }

/-- 'palmerlaw29.BestKeeps', WHERE WHAT IT READS IS OF BULK AT MOST 1048576: true; the input reads as it did. -/
def bestKeepsUptoRow : OpenClaim := { program := "ytggcmnjllkncaaa", sum := "1f0189b9a29ef400b847008ab0323c45db016aed3d4e860258f84dcedcc1cbd3", func := "palmer/palmerlaw29.BestKeeps", spec := "bestKeeps", unfollowed := true, recurses := true, apart := false, narrowed := true }
def BestKeepsUptoSaid : Prop := bestKeepsUptoRow.holds Try.pinned (OpenSpec.upto bestKeepsSpec)

/-- 'palmerlaw29.BestEach', WHERE WHAT IT READS IS OF BULK AT MOST 1048576: true; the input reads as it did. -/
def bestEachUptoRow : OpenClaim := { program := "ytggcmnjllkncaaa", sum := "1f0189b9a29ef400b847008ab0323c45db016aed3d4e860258f84dcedcc1cbd3", func := "palmer/palmerlaw29.BestEach", spec := "bestEach", unfollowed := true, recurses := true, apart := false, narrowed := true }
def BestEachUptoSaid : Prop := bestEachUptoRow.holds Try.pinned (OpenSpec.upto bestEachSpec)

/-- 'palmerlaw29.BestOrder', WHERE WHAT IT READS IS OF BULK AT MOST 1048576: true; the input reads as it did. -/
def bestOrderUptoRow : OpenClaim := { program := "ytggcmnjllkncaaa", sum := "1f0189b9a29ef400b847008ab0323c45db016aed3d4e860258f84dcedcc1cbd3", func := "palmer/palmerlaw29.BestOrder", spec := "bestOrder", unfollowed := true, recurses := true, apart := false, narrowed := true }
def BestOrderUptoSaid : Prop := bestOrderUptoRow.holds Try.pinned (OpenSpec.upto bestOrderSpec)

/-- 'palmerlaw29.BestNone', WHERE WHAT IT READS IS OF BULK AT MOST 1048576: true; the input reads as it did. -/
def bestNoneUptoRow : OpenClaim := { program := "ytggcmnjllkncaaa", sum := "1f0189b9a29ef400b847008ab0323c45db016aed3d4e860258f84dcedcc1cbd3", func := "palmer/palmerlaw29.BestNone", spec := "bestNone", unfollowed := true, recurses := true, apart := false, narrowed := true }
def BestNoneUptoSaid : Prop := bestNoneUptoRow.holds Try.pinned (OpenSpec.upto bestNoneSpec)

end Rows
end Go.Proofs.Ytggcmnjllkncaaa
