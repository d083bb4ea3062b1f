/- BestOrder: two visits that change their places change nothing of it; with more that may be kept the best ones begin as they did. No condition. -/
import Derived.Test.YtggcmnjllkncaaaRows
import Derived.Test.YtggcmnjllkncaaaLaw
import Derived.Test.YtggcmnjllkncaaaBestOrderW
import Derived.Test.YtggcmnjllkncaaaBestOpen
namespace Go.Proofs.Ytggcmnjllkncaaa
set_option linter.unusedSimpArgs false
set_option linter.unusedVariables false
set_option maxRecDepth 100000
open Go.ChangeShapes Go.WideShapes Go.ChangeAt Go.RowKit

set_option maxRecDepth 100000 in
theorem bestOrder_open {H : Type} {enc : TypeId × Value → H} (W : World) (base : Nat) (args : Array Value) (ds : List (DataW H)) (ps : List MemPlace)
    (hval : ∀ (j : Nat) t v, Try.f5.params[j]? = some t → args[j]? = some v → Value.okWide Try.prog W .any base t v)
    (hA : DataW.TrodAll enc Try.prog W 0 (fun _ => true) true Try.f5.params.toList args.toList ds ps)
    (hlt : ∀ x ∈ ps, x.block < W.heap.size) (hfz : W.noneFrozen ps)
    (hsz : (DataW.weightsEach Try.prog Try.f5.params.toList ds).all (· ≤ reachBytes) = true) :
    Calls Try.prog 5 args W fun e W' => e = .returned (.bool true) ∧ Below W.heap.size W W' := by
  rw [Try.params5] at hA hval hsz
  obtain ⟨v0, v1, v2, v3, v4, d0, d1, d2, d3, d4, p0, p1, p2, p3, p4, hargs, rfl, rfl, h0, h1, h2, h3, h4⟩ := trodAll_five hA
  obtain rfl : args = #[v0, v1, v2, v3, v4] := by cases args; simp_all
  obtain ⟨ao, ca, m, rfl, _, _, hm⟩ := open_slice_arg (R := visRep) (opens_slice Try.underlying22 (by kernel_rfl) (by decide) vis_opens) Try.underlying22 (hval 0 22 v0 rfl rfl) h0
  obtain ⟨a1, rfl, rfl, rfl, w1⟩ := open_int Try.underlying3 (hval 1 3 v1 rfl rfl) h1
  obtain ⟨a2, rfl, rfl, rfl, w2⟩ := open_int Try.underlying3 (hval 2 3 v2 rfl rfl) h2
  obtain ⟨a3, rfl, rfl, rfl, w3⟩ := open_int Try.underlying3 (hval 3 3 v3 rfl rfl) h3
  obtain ⟨a4, rfl, rfl, rfl, w4⟩ := open_int Try.underlying3 (hval 4 3 v4 rfl rfl) h4
  have w1' : -9223372036854775808 ≤ a1 ∧ a1 ≤ 9223372036854775807 := by simpa [Lit.wf, IntKind.min, IntKind.max, IntKind.signed, IntKind.bits] using w1
  have w2' : -9223372036854775808 ≤ a2 ∧ a2 ≤ 9223372036854775807 := by simpa [Lit.wf, IntKind.min, IntKind.max, IntKind.signed, IntKind.bits] using w2
  have w3' : -9223372036854775808 ≤ a3 ∧ a3 ≤ 9223372036854775807 := by simpa [Lit.wf, IntKind.min, IntKind.max, IntKind.signed, IntKind.bits] using w3
  have w4' : -9223372036854775808 ≤ a4 ∧ a4 ≤ 9223372036854775807 := by simpa [Lit.wf, IntKind.min, IntKind.max, IntKind.signed, IntKind.bits] using w4
  exact border_walk m ao ca a1 a2 a3 a4 _ W w1' w2' w3' w4' hm

theorem bestOrder_isLaw : IsLaw Rows.bestOrderSpec 5 := ⟨rfl, fun H ds h => by match ds, h with | [d0, d1, d2, d3, d4], _ => exact ⟨rfl, rfl, rfl⟩⟩

set_option maxRecDepth 100000 in
theorem bestOrder_lifted (os : Os) (started : os.Started) (H : Type) (enc : TypeId × Value → H) :
    ReturnsInHanded {} Try.checked os 5 .any (Rows.bestOrderSpec.pre6 enc Try.prog Try.f5 Rows.bestOrderRow.domain false) (Rows.bestOrderSpec.post enc Try.prog Try.f5 false true false false) :=
  law_lifted (C := Try.checked) (by kernel_rfl) started (by kernel_rfl) Try.func5 bestOrder_isLaw (by kernel_rfl) (by kernel_rfl) rfl Try.underlying4
    (ChangeSpec.witness6 (enc := enc) (C := Try.checked) false ⟨#[], #[.slice none 0 0, .int .i64 0, .int .i64 0, .int .i64 0, .int .i64 0], []⟩ 8 (by kernel_rfl) (by kernel_rfl) (by kernel_rfl) (by kernel_rfl))
    (fun W base args ds ps hval hA hlt hfz hsz => bestOrder_open W base args ds ps hval hA hlt hfz hsz)

theorem bestOrder_holds : Rows.BestOrderSaid :=
  OpenClaim.holds_of_wide 5 Try.f5 rfl rfl rfl rfl rfl rfl rfl ⟨rfl, rfl, rfl, rfl, rfl⟩ rfl rfl rfl rfl rfl (by kernel_rfl) Try.func5 (by kernel_rfl)
    (of_decide_eq_true (by kernel_rfl)) (by unfold Func.isWrapper; first | (rw [if_pos (by decide +kernel)]; kernel_rfl) | (rw [if_neg (by decide +kernel)]; exact ⟨rfl, rfl⟩))
    (fun os started H enc _ => bestOrder_lifted os started H enc)
#print axioms bestOrder_holds
end Go.Proofs.Ytggcmnjllkncaaa
