/- corpus.Rec, corpus.piece, the reference's keys. -/
import Derived.Test.YtafbjkbdfdeacaaKeyPlain
import Derived.Test.YtafbjkbdfdeacaaTextSame
import Derived.Handy
namespace Go.Proofs.Ytafbjkbdfdeacaa
set_option linter.unusedSimpArgs false
set_option linter.unusedVariables false
open Go.RowKit

theorem be4_vals (a : Nat) (ha : a < 4294967296) : byteVals (be4 a) = [.int .u8 ((a : Int) / 16777216), .int .u8 ((a : Int) / 65536 % 256), .int .u8 ((a : Int) / 256 % 256), .int .u8 ((a : Int) % 256)] := by
  simp only [byteVals, be4, List.map_cons, List.map_nil, u8n]
  have h : ((a / 16777216 % 256 : Nat) : Int) = (a : Int) / 16777216 := by omega
  rw [h]
  rfl
theorem key3_vals (a b c : Nat) : byteVals (key3 a b c) = byteVals (be4 a) ++ byteVals (be4 b) ++ byteVals (be4 c) := by simp [byteVals, key3]

end Go.Proofs.Ytafbjkbdfdeacaa
