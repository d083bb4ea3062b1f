/- The reference's May of walkers. -/
import Derived.Test.YtcklfffeimnfeaaGreatBx07
namespace Go.Proofs.YtcklfffeimnfeaaGreat
set_option linter.unusedSimpArgs false
set_option linter.unusedVariables false
set_option maxRecDepth 100000
open Go.RowKit

theorem newJ_state (j : JobD) (id : Nat) : (newJ j id).state = 0 := by unfold newJ; split <;> rfl
theorem mayW_bad {j : JobD} {x : WkD} (h : srcH j x.id = false ∨ j.length < x.step ∨ j.tries ≤ x.try_) : mayW j x = false := by unfold mayW; rw [if_pos h]
theorem mayW_state {j : JobD} {x : WkD} (h : 1 < x.state) : mayW j x = false := by
  unfold mayW
  split
  · rfl
  split
  · refine decide_eq_false (fun e => ?_)
    have := newJ_state j x.id
    rw [← e] at this
    omega
  split
  · rfl
  rw [if_neg (by omega), decide_eq_false (by omega)]
  rfl
theorem mayW_zero {j : JobD} {x : WkD} (h : srcH j x.id = true) (h1 : ¬ j.length < x.step) (h2 : ¬ j.tries ≤ x.try_) (h0 : x.step = 0) : mayW j x = decide (x.at_ = j.src[srcN j x.id]! ∧ x.prev = 0 ∧ x.next = 0 ∧ x.try_ = 0 ∧ x.state = 0) := by
  unfold mayW
  rw [if_neg (by rw [h]; simp; omega), if_pos h0]
  have hlt : x.id < walkersJ j := of_decide_eq_true h
  obtain ⟨a, b, c, d, e, f, g⟩ := x
  simp only at h0 h1 h2 hlt
  unfold newJ
  rw [if_pos hlt]
  rw [Bool.eq_iff_iff]
  simp only [decide_eq_true_eq, WkD.mk.injEq, true_and]
  omega

end Go.Proofs.YtcklfffeimnfeaaGreat
