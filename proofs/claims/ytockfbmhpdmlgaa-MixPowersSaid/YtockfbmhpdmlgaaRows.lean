/-
  No cell of these rows narrows 'for every input' (looked for: loops, veiled, ifaces, maps, wideKeys, modest, calm, conditions, laid).
  DERIVED. THE GIVEN ROWS OF THIS SEAT. 5 by the template 'for every input the law returns true; each argument reads behind the call as it read before'; 0 by the template 'total and deterministic' (their statements: YtockfbmhpdmlgaaTotals.lean).
  GIVEN WITH THE SEED: the statements are not yours to turn. If you find one false, say at which input.
  Laid BY PROGRAM, IN A SANDBOX (cutbox-rows.mjs): the forced cells as the released guide's own fill.sh prints them over the translation 90d98495dd44312d… (all of the seat's roots in one cut). By AI agents, Wed Nov 11 2026. No macro, syntax, notation, axiom, sorry.
-/
import Derived.Test.YtockfbmhpdmlgaaChecked
import GoSem.Claim
import GoSem.ClaimJoined
import GoSem.ClaimMapViews
import Derived.JoinedTies
import Derived.KernelRfl
namespace Go.Proofs.Ytockfbmhpdmlgaa
/- THE CELL 'sum', in the pinned program and in every row, IS THE sha256 OF THE DUMP (.gsa) THAT YtockfbmhpdmlgaaProg.lean LOADS. Nothing in Lean hashes anything: it is a label: what it is worth is what the hold of that sum in a sandbox is worth. -/
noncomputable def Try.pinned : Pinned := { name := "ytockfbmhpdmlgaa", sum := "90d98495dd44312d23092922108e488c55acc138f7205dd4f3e055da5952fb97", checked := Try.checked }
namespace Rows
def none {H : Type} : Left H := { results := [], args := [] }

/-- 'palmerlaw01.MixDraws': WHATEVER THE INPUT: true; the input reads as it did. -/
def mixDrawsSpec : ChangeSpec := { name := "mixDraws", fn := fun _ => fun
  | [d1, d2] => { results := [.lit (.bool true)], args := [d1, d2] }
  | _ => none }
def mixDrawsRow : OpenClaim := { program := "ytockfbmhpdmlgaa", sum := "90d98495dd44312d23092922108e488c55acc138f7205dd4f3e055da5952fb97", func := "palmer/palmerlaw01.MixDraws", spec := "mixDraws", apart := false }
def MixDrawsSaid : Prop := mixDrawsRow.holds Try.pinned (OpenSpec.ofChange mixDrawsSpec)

/-- ITS FALSE NEIGHBOUR: 'it returns false'. Refute it at one input. -/
def mixDrawsWrong : ChangeSpec := { name := "mixDraws", fn := fun _ => fun
  | [d1, d2] => { results := [.lit (.bool false)], args := [d1, d2] }
  | _ => none }
def MixDrawsWrongFalsely : Prop := mixDrawsRow.holds Try.pinned (OpenSpec.ofChange mixDrawsWrong)

/-- 'palmerlaw01.MixApart': WHATEVER THE INPUT: true; the input reads as it did. -/
def mixApartSpec : ChangeSpec := { name := "mixApart", fn := fun _ => fun
  | [d1, d2, d3] => { results := [.lit (.bool true)], args := [d1, d2, d3] }
  | _ => none }
def mixApartRow : OpenClaim := { program := "ytockfbmhpdmlgaa", sum := "90d98495dd44312d23092922108e488c55acc138f7205dd4f3e055da5952fb97", func := "palmer/palmerlaw01.MixApart", spec := "mixApart", apart := false }
def MixApartSaid : Prop := mixApartRow.holds Try.pinned (OpenSpec.ofChange mixApartSpec)

/-- ITS FALSE NEIGHBOUR: 'it returns false'. Refute it at one input. -/
def mixApartWrong : ChangeSpec := { name := "mixApart", fn := fun _ => fun
  | [d1, d2, d3] => { results := [.lit (.bool false)], args := [d1, d2, d3] }
  | _ => none }
def MixApartWrongFalsely : Prop := mixApartRow.holds Try.pinned (OpenSpec.ofChange mixApartWrong)

/-- 'palmerlaw01.MixRows': WHATEVER THE INPUT: true; the input reads as it did. -/
def mixRowsSpec : ChangeSpec := { name := "mixRows", fn := fun _ => fun
  | [d1, d2] => { results := [.lit (.bool true)], args := [d1, d2] }
  | _ => none }
def mixRowsRow : OpenClaim := { program := "ytockfbmhpdmlgaa", sum := "90d98495dd44312d23092922108e488c55acc138f7205dd4f3e055da5952fb97", func := "palmer/palmerlaw01.MixRows", spec := "mixRows", unfollowed := true, recurses := true, apart := false }
def MixRowsSaid : Prop := mixRowsRow.holds Try.pinned (OpenSpec.ofChange mixRowsSpec)

/-- ITS FALSE NEIGHBOUR: 'it returns false'. Refute it at one input. -/
def mixRowsWrong : ChangeSpec := { name := "mixRows", fn := fun _ => fun
  | [d1, d2] => { results := [.lit (.bool false)], args := [d1, d2] }
  | _ => none }
def MixRowsWrongFalsely : Prop := mixRowsRow.holds Try.pinned (OpenSpec.ofChange mixRowsWrong)

/-- 'palmerlaw01.MixBelow': WHATEVER THE INPUT: true; the input reads as it did. -/
def mixBelowSpec : ChangeSpec := { name := "mixBelow", fn := fun _ => fun
  | [d1, d2] => { results := [.lit (.bool true)], args := [d1, d2] }
  | _ => none }
def mixBelowRow : OpenClaim := { program := "ytockfbmhpdmlgaa", sum := "90d98495dd44312d23092922108e488c55acc138f7205dd4f3e055da5952fb97", func := "palmer/palmerlaw01.MixBelow", spec := "mixBelow", unfollowed := true, recurses := true, apart := false }
def MixBelowSaid : Prop := mixBelowRow.holds Try.pinned (OpenSpec.ofChange mixBelowSpec)

/-- ITS FALSE NEIGHBOUR: 'it returns false'. Refute it at one input. -/
def mixBelowWrong : ChangeSpec := { name := "mixBelow", fn := fun _ => fun
  | [d1, d2] => { results := [.lit (.bool false)], args := [d1, d2] }
  | _ => none }
def MixBelowWrongFalsely : Prop := mixBelowRow.holds Try.pinned (OpenSpec.ofChange mixBelowWrong)

/-- 'palmerlaw01.MixPowers': WHATEVER THE INPUT: true; the input reads as it did. -/
def mixPowersSpec : ChangeSpec := { name := "mixPowers", fn := fun _ => fun
  | [d1, d2] => { results := [.lit (.bool true)], args := [d1, d2] }
  | _ => none }
def mixPowersRow : OpenClaim := { program := "ytockfbmhpdmlgaa", sum := "90d98495dd44312d23092922108e488c55acc138f7205dd4f3e055da5952fb97", func := "palmer/palmerlaw01.MixPowers", spec := "mixPowers", unfollowed := true, recurses := true, apart := false }
def MixPowersSaid : Prop := mixPowersRow.holds Try.pinned (OpenSpec.ofChange mixPowersSpec)

/-- ITS FALSE NEIGHBOUR: 'it returns false'. Refute it at one input. -/
def mixPowersWrong : ChangeSpec := { name := "mixPowers", fn := fun _ => fun
  | [d1, d2] => { results := [.lit (.bool false)], args := [d1, d2] }
  | _ => none }
def MixPowersWrongFalsely : Prop := mixPowersRow.holds Try.pinned (OpenSpec.ofChange mixPowersWrong)

/- THE SECOND FORM. 'bulk': how many values and letters a reading holds, each counted each time it is reached (what is shared counts as often as it is met; a slice's spare places count too). A statement '..UptoSaid' is the law's where the arguments, and the package variables that the reading takes, are together of bulk at most 1048576: NARROWER than '..Said'. Prove '..Said' where nothing that the law and all that it calls make is longer than what came in: it says more and counts as full. Else prove '..UptoSaid'. A law counts once. -/
mutual
def uptoBulk {H : Type} : DataW H → Nat
  | .lit (.string bytes) => bytes.length + 1
  | .lit _ => 1
  | .nil => 1
  | .ptr d => uptoBulk d + 1
  | .slice elems spare => uptoBulkAll elems + uptoBulkAll spare + 1
  | .agg parts => uptoBulkAll parts + 1
  | .iface _ d => uptoBulk d + 1
  | .map entries => uptoBulkEntries entries + 1
  | .held _ => 1
def uptoBulkAll {H : Type} : List (DataW H) → Nat
  | [] => 0
  | d :: r => uptoBulk d + uptoBulkAll r
def uptoBulkEntries {H : Type} : List (Lit × DataW H) → Nat
  | [] => 0
  | x :: r => uptoBulkEntry x + uptoBulkEntries r
def uptoBulkEntry {H : Type} : Lit × DataW H → Nat
  | (.string bytes, d) => bytes.length + uptoBulk d + 1
  | (_, d) => uptoBulk d + 1
 end
def uptoSmall : (H : Type) → List (DataW H) → Bool := fun _ ds => decide (uptoBulkAll ds ≤ 1048576)
def OpenSpec.upto (s : _root_.Go.ChangeSpec) : _root_.Go.OpenSpec := { _root_.Go.OpenSpec.ofChange s with cond := some uptoSmall }

/-- 'palmerlaw01.MixDraws', WHERE WHAT IT READS IS OF BULK AT MOST 1048576: true; the input reads as it did. -/
def mixDrawsUptoRow : OpenClaim := { program := "ytockfbmhpdmlgaa", sum := "90d98495dd44312d23092922108e488c55acc138f7205dd4f3e055da5952fb97", func := "palmer/palmerlaw01.MixDraws", spec := "mixDraws", apart := false, narrowed := true }
def MixDrawsUptoSaid : Prop := mixDrawsUptoRow.holds Try.pinned (OpenSpec.upto mixDrawsSpec)

/-- 'palmerlaw01.MixApart', WHERE WHAT IT READS IS OF BULK AT MOST 1048576: true; the input reads as it did. -/
def mixApartUptoRow : OpenClaim := { program := "ytockfbmhpdmlgaa", sum := "90d98495dd44312d23092922108e488c55acc138f7205dd4f3e055da5952fb97", func := "palmer/palmerlaw01.MixApart", spec := "mixApart", apart := false, narrowed := true }
def MixApartUptoSaid : Prop := mixApartUptoRow.holds Try.pinned (OpenSpec.upto mixApartSpec)

/-- 'palmerlaw01.MixRows', WHERE WHAT IT READS IS OF BULK AT MOST 1048576: true; the input reads as it did. -/
def mixRowsUptoRow : OpenClaim := { program := "ytockfbmhpdmlgaa", sum := "90d98495dd44312d23092922108e488c55acc138f7205dd4f3e055da5952fb97", func := "palmer/palmerlaw01.MixRows", spec := "mixRows", unfollowed := true, recurses := true, apart := false, narrowed := true }
def MixRowsUptoSaid : Prop := mixRowsUptoRow.holds Try.pinned (OpenSpec.upto mixRowsSpec)

/-- 'palmerlaw01.MixBelow', WHERE WHAT IT READS IS OF BULK AT MOST 1048576: true; the input reads as it did. -/
def mixBelowUptoRow : OpenClaim := { program := "ytockfbmhpdmlgaa", sum := "90d98495dd44312d23092922108e488c55acc138f7205dd4f3e055da5952fb97", func := "palmer/palmerlaw01.MixBelow", spec := "mixBelow", unfollowed := true, recurses := true, apart := false, narrowed := true }
def MixBelowUptoSaid : Prop := mixBelowUptoRow.holds Try.pinned (OpenSpec.upto mixBelowSpec)

/-- 'palmerlaw01.MixPowers', WHERE WHAT IT READS IS OF BULK AT MOST 1048576: true; the input reads as it did. -/
def mixPowersUptoRow : OpenClaim := { program := "ytockfbmhpdmlgaa", sum := "90d98495dd44312d23092922108e488c55acc138f7205dd4f3e055da5952fb97", func := "palmer/palmerlaw01.MixPowers", spec := "mixPowers", unfollowed := true, recurses := true, apart := false, narrowed := true }
def MixPowersUptoSaid : Prop := mixPowersUptoRow.holds Try.pinned (OpenSpec.upto mixPowersSpec)

end Rows
end Go.Proofs.Ytockfbmhpdmlgaa
