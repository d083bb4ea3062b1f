/- The reference's picks: palmerref16.Neighbours, palmerref17.Total, palmerref18.Weight. -/
import Derived.Test.YtcklfffeimnfeaaGreatBx15
import Derived.Test.YtcklfffeimnfeaaGreatBx14
set_option maxRecDepth 100000
set_option maxHeartbeats 12800000
set_option linter.unusedSimpArgs false
set_option linter.unusedVariables false
namespace Go.Proofs.YtcklfffeimnfeaaGreat
open Go.RowKit

theorem rneigh_any (l : List ArcD) (ao : Option Addr) (cap : Nat) (fp : Nat → Prop) (w : World) (hl : l.length ≤ 100000) (hrd : RdS arcRep fp w ao l) :
    Calls Tryz.prog 118 #[.slice ao l.length cap] w (RetB (.bool (decide (0 < l.length) && mayA l)) w) := by
  have HM := Lib.hid (fun W (h : Below w.heap.size w W) => rmay04_any l ao cap fp W hl (hrd.ext h))
  clear hrd
  by_cases h0 : 0 < l.length
  · have d1 : decide (0 < l.length) = true := decide_eq_true h0
    have d1' : decide ((0 : Int) < (l.length : Int)) = true := decide_eq_true (by omega)
    rw [d1, Bool.true_and]
    go_enter Tryz.func118, Tryz.ntmps118
    go_wp2_with (go_at_call 147; (with_reducible refine (HM.out _ (Below.refl _ _)).mono ?_); rintro e w1 ⟨rfl, hB⟩; have B1 := Lib.hid hB; clear hB)
    go_ret
    exact ⟨rfl, B1.out⟩
  · have d1 : decide (0 < l.length) = false := decide_eq_false h0
    have d1' : decide ((0 : Int) < (l.length : Int)) = false := decide_eq_false (by omega)
    rw [d1, Bool.false_and]
    go_enter Tryz.func118, Tryz.ntmps118
    go_wp2_with fail
    go_ret
    exact ⟨rfl, Below.refl _ _⟩
theorem rtotal_any (l : List ArcD) (ao : Option Addr) (cap : Nat) (fp : Nat → Prop) (w : World) (hl : l.length ≤ 100000) (hne : l ≠ []) (hm : mayA l = true) (hrd : RdS arcRep fp w ao l) :
    Calls Tryz.prog 75 #[.slice ao l.length cap] w (RetB (.int .u64 (totalM l : Nat)) w) := by
  have HM := Lib.hid (fun W (h : Below w.heap.size w W) => rneigh_any l ao cap fp W hl (hrd.ext h))
  have HS := Lib.hid (fun W (h : Below w.heap.size w W) => rsum_any l ao cap fp W (by omega) (hrd.ext h))
  have hle := totalM_le hl
  have hlp : 0 < l.length := List.length_pos_iff.2 hne
  unfold totalM at hle ⊢
  rw [hm] at HM hle ⊢
  rw [decide_eq_true hlp, Bool.true_and] at HM
  simp only [if_true] at hle ⊢
  have hmul : IntKind.u64.wrap ((sumA l : Int) * (l.length : Int)) = ((sumA l * l.length : Nat) : Int) := by
    rw [show (sumA l : Int) * (l.length : Int) = ((sumA l * l.length : Nat) : Int) from by simp]
    exact IntWalk.u64_in _ (by omega)
  have Hmul := Lib.hid hmul
  clear hle hm hmul hrd hne hlp
  generalize sumA l = s at *
  go_enter Tryz.func75, Tryz.ntmps75
  go_wp2_with (first
    | (go_at_call 118; (with_reducible refine (HM.out _ (Below.refl _ _)).mono ?_); rintro e w1 ⟨rfl, hB⟩; have B1 := Lib.hid hB; clear hB)
    | (go_at_call 56; (with_reducible refine (HS.out _ B1.out).mono ?_); rintro e w2 ⟨rfl, hB⟩; have B2 := Lib.hid (B1.out.trans (hB.mono B1.out.size)); clear hB))
  go_ret
  refine ⟨?_, B2.out⟩
  have h := Hmul.out
  refine congrArg (fun n => Ending.returned (Value.int .u64 n)) ?_
  simpa [IntKind.wrap, IntKind.bits, IntKind.signed] using h
theorem rweight18_any (p q : Nat) (hp : p < 4294967296) (hq : q < 4294967296) (back near : Bool) (w : World) : Calls Tryz.prog 121 #[.int .u32 (p : Nat), .int .u32 (q : Nat), .bool back, .bool near] w fun e w' => e = .returned (.int .u64 (weightN p q back near : Nat)) ∧ w' = w := by
  have h : p * q ≤ 4294967295 * 4294967295 := Nat.mul_le_mul (by omega) (by omega)
  have hm : IntKind.u64.wrap ((p : Int) * (q : Int)) = ((p * q : Nat) : Int) := by
    rw [show (p : Int) * (q : Int) = ((p * q : Nat) : Int) from by simp]
    exact IntWalk.u64_in _ (by omega)
  have Hm := Lib.hid hm
  clear h hm
  cases back
  · cases near
    · show Calls _ _ _ _ fun e w' => e = .returned (.int .u64 (p : Nat)) ∧ w' = w
      go_enter Tryz.func121, Tryz.ntmps121
      go_wp2_with fail
      go_ret
      exact ⟨rfl, rfl⟩
    · show Calls _ _ _ _ fun e w' => e = .returned (.int .u64 ((p * q : Nat) : Nat)) ∧ w' = w
      go_enter Tryz.func121, Tryz.ntmps121
      go_wp2_with fail
      go_ret
      refine ⟨?_, rfl⟩
      have := Hm.out
      first
        | (rw [this]; done)
        | (refine congrArg (fun n => Ending.returned (Value.int .u64 n)) ?_; simpa [IntKind.wrap, IntKind.bits, IntKind.signed] using this)
  · show Calls _ _ _ _ fun e w' => e = .returned (.int .u64 (q : Nat)) ∧ w' = w
    go_enter Tryz.func121, Tryz.ntmps121
    go_wp2_with fail
    go_ret
    exact ⟨rfl, rfl⟩
end Go.Proofs.YtcklfffeimnfeaaGreat
