/- corpus.piece. -/
import Derived.Test.YtafbjkbdfdeacaaCorpRec
namespace Go.Proofs.Ytafbjkbdfdeacaa
set_option linter.unusedSimpArgs false
set_option linter.unusedVariables false
open Go.RowKit

theorem bits_or_u32_nat (a b : Nat) (ha : a < 4294967296) (hb : b < 4294967296) : bits .or .u32 (a : Int) (b : Int) = ((a ||| b : Nat) : Int) := by
  have hx : a ||| b < 2 ^ 32 := Nat.or_lt_two_pow (by omega) (by omega)
  have h1 : (BitVec.ofInt 32 (a : Int)).toNat = a := by
    rw [BitVec.ofInt_natCast, BitVec.toNat_ofNat]; exact Nat.mod_eq_of_lt (by omega)
  have h2 : (BitVec.ofInt 32 (b : Int)).toNat = b := by
    rw [BitVec.ofInt_natCast, BitVec.toNat_ofNat]; exact Nat.mod_eq_of_lt (by omega)
  show IntKind.u32.wrap ((BitVec.ofInt 32 (a : Int) ||| BitVec.ofInt 32 (b : Int)).toNat : Int) = _
  rw [BitVec.toNat_or, h1, h2]
  simp [IntKind.wrap, IntKind.bits, IntKind.signed]
  omega
theorem or_first (c : Nat) (h : c < 256) : bits .or .u32 0 (c : Int) = (c : Int) := by
  have := bits_or_u32_nat 0 c (by omega) (by omega)
  simpa using this
theorem or_next (x c : Nat) (hx : x < 16777216) (hc : c < 256) : bits .or .u32 ((x : Int) * 256 % 4294967296) (c : Int) = ((x * 256 + c : Nat) : Int) := by
  have h1 : (x : Int) * 256 % 4294967296 = ((x * 256 : Nat) : Int) := by omega
  rw [h1, bits_or_u32_nat _ _ (by omega) (by omega)]
  have h2 := Nat.two_pow_add_eq_or_of_lt (i := 8) hc x
  rw [Nat.mul_comm] at h2
  rw [show x * 256 = x * 2 ^ 8 from rfl, ← h2]

end Go.Proofs.Ytafbjkbdfdeacaa
