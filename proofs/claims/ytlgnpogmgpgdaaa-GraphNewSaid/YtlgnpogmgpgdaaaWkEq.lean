/- Walkers compared. -/
import Derived.Test.YtlgnpogmgpgdaaaJobWalk
namespace Go.Proofs.Ytlgnpogmgpgdaaa
set_option linter.unusedSimpArgs false
set_option linter.unusedVariables false
set_option maxRecDepth 100000
open Go.RowKit

theorem wk_eq (x y : WkD) : ((x.id : Int) == (y.id : Int) && ((x.step : Int) == (y.step : Int) && ((x.at_ : Int) == (y.at_ : Int) && ((x.prev : Int) == (y.prev : Int) && ((x.next : Int) == (y.next : Int) && ((x.try_ : Int) == (y.try_ : Int) && (x.state : Int) == (y.state : Int))))))) = decide (x = y) := by
  obtain ⟨a, b, c, d, e, f, g⟩ := x
  obtain ⟨a', b', c', d', e', f', g'⟩ := y
  rw [Bool.eq_iff_iff]
  simp only [Bool.and_eq_true, beq_iff_eq, decide_eq_true_eq, WkD.mk.injEq]
  omega
set_option maxHeartbeats 1600000 in
theorem eq_numbers (x y : WkD) (w : World) : (Op.equalIn 10000 129 (.agg (wkCs x)) (.agg (wkCs y))).run Try.prog w = .ok (decide (x = y)) w := by
  rw [← wk_eq]
  have u3 := Try.underlying23
  have a3 := Try.isAgg23
  have z3 := Try.sizeOf23
  unfold wkCs
  generalize (x.id : Int) = a1
  generalize (x.step : Int) = a2
  generalize (x.at_ : Int) = a3
  generalize (x.prev : Int) = a4
  generalize (x.next : Int) = a5
  generalize (x.try_ : Int) = a6
  generalize (x.state : Int) = a7
  generalize (y.id : Int) = b1
  generalize (y.step : Int) = b2
  generalize (y.at_ : Int) = b3
  generalize (y.prev : Int) = b4
  generalize (y.next : Int) = b5
  generalize (y.try_ : Int) = b6
  generalize (y.state : Int) = b7
  rw [show (10000 : Nat) = 9999 + 1 from rfl, Op.equalIn]
  simp only [Sem.run_bind, run_underlying Try.underlying129, Result.andThen_ok]
  simp only [Std.Legacy.Range.forIn_eq_forIn_range', Std.Legacy.Range.size, Nat.sub_zero, Nat.add_sub_cancel, Nat.div_one, List.range'_succ, List.range'_zero, List.forIn_cons, List.forIn_nil]
  go_simp
  by_cases h1 : a1 = b1 <;> simp [h1]
  by_cases h2 : a2 = b2 <;> simp [h2]
  by_cases h3 : a3 = b3 <;> simp [h3]
  by_cases h4 : a4 = b4 <;> simp [h4]
  by_cases h5 : a5 = b5 <;> simp [h5]
  by_cases h6 : a6 = b6 <;> simp [h6]
  by_cases h7 : a7 = b7 <;> simp [h7]
set_option maxHeartbeats 1600000 in
theorem eq_walker (x y : WkD) (w : World) : (Op.equalIn 10000 30 (.agg (wkCs x)) (.agg (wkCs y))).run Try.prog w = .ok (decide (x = y)) w := by
  rw [← wk_eq]
  have u3 := Try.underlying23
  have a3 := Try.isAgg23
  have z3 := Try.sizeOf23
  unfold wkCs
  generalize (x.id : Int) = a1
  generalize (x.step : Int) = a2
  generalize (x.at_ : Int) = a3
  generalize (x.prev : Int) = a4
  generalize (x.next : Int) = a5
  generalize (x.try_ : Int) = a6
  generalize (x.state : Int) = a7
  generalize (y.id : Int) = b1
  generalize (y.step : Int) = b2
  generalize (y.at_ : Int) = b3
  generalize (y.prev : Int) = b4
  generalize (y.next : Int) = b5
  generalize (y.try_ : Int) = b6
  generalize (y.state : Int) = b7
  have hS : Try.prog.underlying 30 = some (.struct (Try.prog.fieldsOf 30)) := by kernel_rfl
  rw [show (10000 : Nat) = 9999 + 1 from rfl, run_equalIn_agg w 9999 30 _ _ hS (by kernel_rfl)]
  simp only [Program.fieldsOf, Try.underlying30]
  go_simp
  by_cases h1 : a1 = b1 <;> simp [h1]
  by_cases h2 : a2 = b2 <;> simp [h2]
  by_cases h3 : a3 = b3 <;> simp [h3]
  by_cases h4 : a4 = b4 <;> simp [h4]
  by_cases h5 : a5 = b5 <;> simp [h5]
  by_cases h6 : a6 = b6 <;> simp [h6]
  by_cases h7 : a7 = b7 <;> simp [h7]
def beginJ : JobD := ⟨0, 0, 10, 1, [], 0, 1, 1, 1, 100, 10, 1024, 4096, 64, 64⟩
set_option maxHeartbeats 1600000 in
theorem begin_any (w : World) : Calls Try.prog 41 #[] w (RetB (.agg (jobCs beginJ none 0)) w) := by
  go_enter Try.func41, Try.ntmps41
  go_wp2_with fail
  exact bodyPost_ret (results_cell_row rfl _ _ w.heap.size 28 _ (0, 0) _ rfl (heap_alloc_new w _) Try.underlying28 rfl (show _ = some 15 by kernel_rfl)) rfl ⟨rfl, ext_alloc w _⟩
end Go.Proofs.Ytlgnpogmgpgdaaa
