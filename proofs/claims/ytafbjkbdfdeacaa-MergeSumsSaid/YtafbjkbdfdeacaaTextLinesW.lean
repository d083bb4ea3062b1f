/- TextLines: the walk. -/
import Derived.Test.YtafbjkbdfdeacaaTextLines
namespace Go.Proofs.Ytafbjkbdfdeacaa
set_option linter.unusedSimpArgs false
set_option linter.unusedVariables false
open Go.RowKit
attribute [local go_sem] Oper.semAt_some

theorem pre_next {ls : List (List UInt8)} {pre : List (Nat × List UInt8)} {x : Nat × List UInt8} (h : pre ++ [x] <+: numFrom 1 ls) : ∃ y, x = (pre.length + 1, y) ∧ ls[pre.length]? = some y ∧ pre.length < ls.length := by
  obtain ⟨r, hr⟩ := h
  have h1 : (numFrom 1 ls)[pre.length]? = some x := by rw [← hr]; simp
  rw [numFrom_get] at h1
  cases h2 : ls[pre.length]? with
  | none => rw [h2] at h1; cases h1
  | some y =>
    rw [h2] at h1
    simp only [Option.map_some, Option.some.injEq] at h1
    exact ⟨y, by rw [← h1, Nat.add_comm], rfl, (List.getElem?_eq_some_iff.1 h2).1⟩

theorem leaveM0 {P : Program} {fn : Func} {tmps : Array Value} {R : Ending → World → Prop} {W : World} {v : Value} (hr : (results fn tmps).run P W = .ok v W) (hR : R (.returned v) W) :
    bodyPostM Fence.wide 0 P fn R .ret { tmps := tmps, defers := [] } W := ⟨v, hr, hR⟩

end Go.Proofs.Ytafbjkbdfdeacaa
