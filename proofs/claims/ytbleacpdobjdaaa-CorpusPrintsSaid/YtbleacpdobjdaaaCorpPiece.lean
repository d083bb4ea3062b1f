/- corpus.piece. -/
import Derived.Test.YtbleacpdobjdaaaCorpRec
namespace Go.Proofs.Ytbleacpdobjdaaa
set_option linter.unusedSimpArgs false
set_option linter.unusedVariables false
open Go.RowKit

theorem bits_or_u32_nat (a b : Nat) (ha : a < 4294967296) (hb : b < 4294967296) : bits .or .u32 (a : Int) (b : Int) = ((a ||| b : Nat) : Int) := by
  have hx : a ||| b < 2 ^ 32 := Nat.or_lt_two_pow (by omega) (by omega)
  have h1 : (BitVec.ofInt 32 (a : Int)).toNat = a := by
    rw [BitVec.ofInt_natCast, BitVec.toNat_ofNat]; exact Nat.mod_eq_of_lt (by omega)
  have h2 : (BitVec.ofInt 32 (b : Int)).toNat = b := by
    rw [BitVec.ofInt_natCast, BitVec.toNat_ofNat]; exact Nat.mod_eq_of_lt (by omega)
  show IntKind.u32.wrap ((BitVec.ofInt 32 (a : Int) ||| BitVec.ofInt 32 (b : Int)).toNat : Int) = _
  rw [BitVec.toNat_or, h1, h2]
  simp [IntKind.wrap, IntKind.bits, IntKind.signed]
  omega
theorem or_first (c : Nat) (h : c < 256) : bits .or .u32 0 (c : Int) = (c : Int) := by
  have := bits_or_u32_nat 0 c (by omega) (by omega)
  simpa using this
theorem or_next (x c : Nat) (hx : x < 16777216) (hc : c < 256) : bits .or .u32 ((x : Int) * 256 % 4294967296) (c : Int) = ((x * 256 + c : Nat) : Int) := by
  have h1 : (x : Int) * 256 % 4294967296 = ((x * 256 : Nat) : Int) := by omega
  rw [h1, bits_or_u32_nat _ _ (by omega) (by omega)]
  have h2 := Nat.two_pow_add_eq_or_of_lt (i := 8) hc x
  rw [Nat.mul_comm] at h2
  rw [show x * 256 = x * 2 ^ 8 from rfl, ← h2]

set_option maxRecDepth 100000 in
set_option maxHeartbeats 1600000 in
theorem piece_any (l : List UInt8) (ao : Option Addr) (cap : Nat) (w : World) (h12 : l.length = 12) (hrd : Rd w ao l.length (byteVals l)) :
    Calls Try.prog 49 #[.slice ao l.length cap] w fun e w' => e = .returned (.tuple #[.int .u32 (keyOf l).1, .int .u32 (keyOf l).2.1, .int .u32 (keyOf l).2.2]) ∧ Below w.heap.size w w' := by
  obtain ⟨b, off, rfl, hb, hc⟩ := hrd.pos (by omega)
  obtain ⟨c0, c1, c2, c3, c4, c5, c6, c7, c8, c9, c10, c11, rfl⟩ := twelve l h12
  have h0 := hc 0 (by simp); have h1 := hc 1 (by simp); have h2 := hc 2 (by simp); have h3 := hc 3 (by simp)
  have h4 := hc 4 (by simp); have h5 := hc 5 (by simp); have h6 := hc 6 (by simp); have h7 := hc 7 (by simp)
  have h8 := hc 8 (by simp); have h9 := hc 9 (by simp); have h10 := hc 10 (by simp); have h11 := hc 11 (by simp)
  simp only [byteVals, List.map_cons, List.map_nil, List.getElem?_cons_zero, List.getElem?_cons_succ, Nat.add_zero] at h0 h1 h2 h3 h4 h5 h6 h7 h8 h9 h10 h11
  clear hc hrd h12
  have k0 := c0.toNat_lt; have k1 := c1.toNat_lt; have k2 := c2.toNat_lt; have k3 := c3.toNat_lt; have k4 := c4.toNat_lt; have k5 := c5.toNat_lt
  have k6 := c6.toNat_lt; have k7 := c7.toNat_lt; have k8 := c8.toNat_lt; have k9 := c9.toNat_lt; have k10 := c10.toNat_lt; have k11 := c11.toNat_lt
  simp only [keyOf, num4, List.take_succ_cons, List.take_zero, List.drop_succ_cons, List.drop_zero, List.foldl_cons, List.foldl_nil, Nat.zero_mul, Nat.zero_add]
  generalize c0.toNat = c0 at *
  generalize c1.toNat = c1 at *
  generalize c2.toNat = c2 at *
  generalize c3.toNat = c3 at *
  generalize c4.toNat = c4 at *
  generalize c5.toNat = c5 at *
  generalize c6.toNat = c6 at *
  generalize c7.toNat = c7 at *
  generalize c8.toNat = c8 at *
  generalize c9.toNat = c9 at *
  generalize c10.toNat = c10 at *
  generalize c11.toNat = c11 at *
  go_enter Try.func49, Try.ntmps49
  go_wp2
  refine wp_loop_rounds 13 ?_
  iterate 13
    rw [rounds_succ]
    go_wp2
  go_quiet (fail)
  go_wp2
  go_ret3
  simp only [or_first c0 k0, or_first c4 k4, or_first c8 k8, or_next _ _ (show c0 < 16777216 by omega) k1, or_next _ _ (show c4 < 16777216 by omega) k5, or_next _ _ (show c8 < 16777216 by omega) k9,
    or_next _ _ (show c0 * 256 + c1 < 16777216 by omega) k2, or_next _ _ (show c4 * 256 + c5 < 16777216 by omega) k6, or_next _ _ (show c8 * 256 + c9 < 16777216 by omega) k10,
    or_next _ _ (show (c0 * 256 + c1) * 256 + c2 < 16777216 by omega) k3, or_next _ _ (show (c4 * 256 + c5) * 256 + c6 < 16777216 by omega) k7, or_next _ _ (show (c8 * 256 + c9) * 256 + c10 < 16777216 by omega) k11]
  exact ⟨rfl, below_drewN (ext_alloc w _) _⟩
end Go.Proofs.Ytbleacpdobjdaaa
