/- awake, TextWords, TextNums: the walks. -/
import Derived.Test.YtafbjkbdfdeacaaTextRefN
namespace Go.Proofs.Ytafbjkbdfdeacaa
set_option linter.unusedSimpArgs false
set_option linter.unusedVariables false
open Go.RowKit

end Go.Proofs.Ytafbjkbdfdeacaa
