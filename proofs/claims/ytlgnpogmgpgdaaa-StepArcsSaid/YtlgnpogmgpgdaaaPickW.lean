/- pick.Total, pick.Alias. -/
import Derived.Test.YtlgnpogmgpgdaaaArcMay
namespace Go.Proofs.Ytlgnpogmgpgdaaa
set_option linter.unusedSimpArgs false
set_option linter.unusedVariables false
set_option maxRecDepth 100000
open Go.RowKit

def cellRep : Rep CellD := Rep.prod Rep.u64 Rep.u32
def okC (x : CellD) : Prop := x.1 < 18446744073709551616 ∧ x.2 < 4294967296
theorem RdS.cel {fp : Nat → Prop} {w : World} {ao : Option Addr} {l : List CellD} (h : RdS cellRep fp w ao l) (k : Nat) (hk : k < l.length) :
    ∃ b off, ao = some ⟨b, off, none⟩ ∧ b < w.heap.size ∧ w.cell? ⟨b, off + k * 2, none⟩ = some (.int .u64 (l[k].1 : Nat)) ∧ w.cell? ⟨b, off + k * 2 + 1, none⟩ = some (.int .u32 (l[k].2 : Nat)) ∧ okC l[k] := by
  obtain ⟨b, off, cs, rfl, _, hb, ⟨c, d, rfl, ⟨rfl, h1⟩, ⟨rfl, h2⟩⟩, hc⟩ := h.at k hk
  exact ⟨b, off, rfl, hb, hc 0 (by decide), hc 1 (by decide), h1, h2⟩
theorem totalM_le {l : List ArcD} (hl : l.length ≤ 100000) : totalM l ≤ 2147483647 * 100000 := by
  unfold totalM
  split
  · rename_i h
    exact Nat.mul_le_mul (of_decide_eq_true h).2.2 hl
  · omega
set_option maxHeartbeats 1600000 in
theorem total_any (l : List ArcD) (ao : Option Addr) (cap : Nat) (fp : Nat → Prop) (w : World) (hl : l.length ≤ 100000) (hrd : RdS arcRep fp w ao l) :
    Calls Try.prog 52 #[.slice ao l.length cap] w (RetB (.int .u64 (totalM l : Nat)) w) := by
  have HM := Lib.hid (fun W (h : Below w.heap.size w W) => gmay_any l ao cap fp W hl (hrd.ext h))
  have HS := Lib.hid (fun W (h : Below w.heap.size w W) => gsum_any l ao cap fp W (by omega) (hrd.ext h))
  have hle := totalM_le hl
  unfold totalM at hle ⊢
  clear hrd
  cases hm : mayA l with
  | false =>
    rw [hm] at HM
    simp only [Bool.false_eq_true, if_false]
    clear hle hm
    go_enter Try.func52, Try.ntmps52
    go_wp2_with (go_at_call 43; (with_reducible refine (HM.out _ (Below.refl _ _)).mono ?_); rintro e w1 ⟨rfl, hB⟩; have B1 := Lib.hid hB; clear hB)
    go_ret
    exact ⟨rfl, B1.out⟩
  | true =>
    rw [hm] at HM hle
    simp only [if_true] at hle ⊢
    have hmul : IntKind.u64.wrap ((sumA l : Int) * (l.length : Int)) = ((sumA l * l.length : Nat) : Int) := by
      rw [show (sumA l : Int) * (l.length : Int) = ((sumA l * l.length : Nat) : Int) from by simp]
      exact IntWalk.u64_in _ (by omega)
    have Hmul := Lib.hid hmul
    clear hle hm hmul
    generalize sumA l = s at *
    go_enter Try.func52, Try.ntmps52
    go_wp2_with (first
      | (go_at_call 43; (with_reducible refine (HM.out _ (Below.refl _ _)).mono ?_); rintro e w1 ⟨rfl, hB⟩; have B1 := Lib.hid hB; clear hB)
      | (go_at_call 77; (with_reducible refine (HS.out _ B1.out).mono ?_); rintro e w2 ⟨rfl, hB⟩; have B2 := Lib.hid (B1.out.trans (hB.mono B1.out.size)); clear hB))
    go_ret
    refine ⟨?_, B2.out⟩
    have h := Hmul.out
    refine congrArg (fun n => Ending.returned (Value.int .u64 n)) ?_
    simpa [IntKind.wrap, IntKind.bits, IntKind.signed] using h
end Go.Proofs.Ytlgnpogmgpgdaaa
