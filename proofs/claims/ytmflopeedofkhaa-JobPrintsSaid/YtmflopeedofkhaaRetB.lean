/- What a call that hands back a value and only makes memory leaves. No program in sight. -/
import Derived.Test.YtmflopeedofkhaaByBase
namespace Go.Proofs.Ytmflopeedofkhaa
set_option linter.unusedSimpArgs false
set_option linter.unusedVariables false
set_option maxRecDepth 100000
open Go.RowKit
def RetB (v : Value) (w : World) (e : Ending) (w' : World) : Prop := e = .returned v ∧ Below w.heap.size w w'
end Go.Proofs.Ytmflopeedofkhaa
