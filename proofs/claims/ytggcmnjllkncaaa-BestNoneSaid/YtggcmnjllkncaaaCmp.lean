/- cmp.Compare of numbers. -/
import Derived.Test.YtggcmnjllkncaaaBdSort
namespace Go.Proofs.Ytggcmnjllkncaaa
set_option linter.unusedSimpArgs false
set_option linter.unusedVariables false
set_option maxRecDepth 100000
open Go.RowKit

def cmpN (a b : Nat) : Int := if a < b then -1 else if b < a then 1 else 0
set_option maxHeartbeats 1600000 in
theorem cmp32_any (a b : Nat) (w : World) : Calls Try.prog 28 #[.int .u32 (a : Nat), .int .u32 (b : Nat)] w fun e w' => e = .returned (.int .i64 (cmpN a b)) ∧ w' = w := by
  unfold cmpN
  by_cases h1 : a < b
  · rw [if_pos h1]
    have d1 : decide (a < b) = true := decide_eq_true h1
    have d1' : decide ((a : Int) < (b : Int)) = true := decide_eq_true (by omega)
    clear h1
    go_enter Try.func28, Try.ntmps28
    go_wp2_with (go_at_call 34; refine (isNaN32_any _ _).mono ?_; rintro e w' ⟨rfl, rfl⟩)
    go_ret
    exact ⟨rfl, rfl⟩
  · rw [if_neg h1]
    have d1 : decide (a < b) = false := decide_eq_false h1
    have d1' : decide ((a : Int) < (b : Int)) = false := decide_eq_false (by omega)
    by_cases h2 : b < a
    · rw [if_pos h2]
      have d2 : decide (b < a) = true := decide_eq_true h2
      have d2' : decide ((b : Int) < (a : Int)) = true := decide_eq_true (by omega)
      clear h1 h2
      go_enter Try.func28, Try.ntmps28
      go_wp2_with (go_at_call 34; refine (isNaN32_any _ _).mono ?_; rintro e w' ⟨rfl, rfl⟩)
      go_ret
      exact ⟨rfl, rfl⟩
    · rw [if_neg h2]
      have d2 : decide (b < a) = false := decide_eq_false h2
      have d2' : decide ((b : Int) < (a : Int)) = false := decide_eq_false (by omega)
      clear h1 h2
      go_enter Try.func28, Try.ntmps28
      go_wp2_with (go_at_call 34; refine (isNaN32_any _ _).mono ?_; rintro e w' ⟨rfl, rfl⟩)
      go_ret
      exact ⟨rfl, rfl⟩
set_option maxHeartbeats 1000000 in
theorem isNaN64_any (x : Nat) (w : World) : Calls Try.prog 33 #[.int .u64 (x : Nat)] w fun e w' => e = .returned (.bool false) ∧ w' = w := by
  go_enter Try.func33, Try.ntmps33
  go_wp2
  go_ret
  exact ⟨by simp, rfl⟩
set_option maxHeartbeats 1600000 in
theorem cmp64_any (a b : Nat) (w : World) : Calls Try.prog 27 #[.int .u64 (a : Nat), .int .u64 (b : Nat)] w fun e w' => e = .returned (.int .i64 (cmpN a b)) ∧ w' = w := by
  unfold cmpN
  by_cases h1 : a < b
  · rw [if_pos h1]
    have d1 : decide (a < b) = true := decide_eq_true h1
    have d1' : decide ((a : Int) < (b : Int)) = true := decide_eq_true (by omega)
    clear h1
    go_enter Try.func27, Try.ntmps27
    go_wp2_with (go_at_call 33; refine (isNaN64_any _ _).mono ?_; rintro e w' ⟨rfl, rfl⟩)
    go_ret
    exact ⟨rfl, rfl⟩
  · rw [if_neg h1]
    have d1 : decide (a < b) = false := decide_eq_false h1
    have d1' : decide ((a : Int) < (b : Int)) = false := decide_eq_false (by omega)
    by_cases h2 : b < a
    · rw [if_pos h2]
      have d2 : decide (b < a) = true := decide_eq_true h2
      have d2' : decide ((b : Int) < (a : Int)) = true := decide_eq_true (by omega)
      clear h1 h2
      go_enter Try.func27, Try.ntmps27
      go_wp2_with (go_at_call 33; refine (isNaN64_any _ _).mono ?_; rintro e w' ⟨rfl, rfl⟩)
      go_ret
      exact ⟨rfl, rfl⟩
    · rw [if_neg h2]
      have d2 : decide (b < a) = false := decide_eq_false h2
      have d2' : decide ((b : Int) < (a : Int)) = false := decide_eq_false (by omega)
      clear h1 h2
      go_enter Try.func27, Try.ntmps27
      go_wp2_with (go_at_call 33; refine (isNaN64_any _ _).mono ?_; rintro e w' ⟨rfl, rfl⟩)
      go_ret
      exact ⟨rfl, rfl⟩
end Go.Proofs.Ytggcmnjllkncaaa
