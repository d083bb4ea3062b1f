/- Slices that are only read; the reference's Same. -/
import Derived.Test.YtafbjkbdfdeacaaTextRefW
namespace Go.Proofs.Ytafbjkbdfdeacaa
set_option linter.unusedSimpArgs false
set_option linter.unusedVariables false
open Go.RowKit

attribute [go_sem] bs_toList
def sameRel (a b : List (List UInt8)) (w : World) (v i : Value) (wr : World) : Prop :=
  ∃ k : Nat, k ≤ a.length ∧ i = .int .i64 k ∧ a.take k = b.take k ∧ Below w.heap.size w wr

end Go.Proofs.Ytafbjkbdfdeacaa
