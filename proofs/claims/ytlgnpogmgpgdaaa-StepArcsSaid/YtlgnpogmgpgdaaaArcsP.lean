/- StepArcs: a fixed walk steps along an arc, or stops. No condition. -/
import Derived.Test.YtlgnpogmgpgdaaaRows
import Derived.Test.YtlgnpogmgpgdaaaLaw
import Derived.Test.YtlgnpogmgpgdaaaArcsW
import Derived.Test.YtlgnpogmgpgdaaaArcOpen
namespace Go.Proofs.Ytlgnpogmgpgdaaa
set_option linter.unusedSimpArgs false
set_option linter.unusedVariables false
set_option maxRecDepth 100000
open Go.ChangeShapes Go.WideShapes Go.ChangeAt Go.RowKit

set_option maxRecDepth 100000 in
theorem stepArcs_open {H : Type} {enc : TypeId × Value → H} (W : World) (base : Nat) (args : Array Value) (ds : List (DataW H)) (ps : List MemPlace)
    (hval : ∀ (j : Nat) t v, Try.f4.params[j]? = some t → args[j]? = some v → Value.okWide Try.prog W .any base t v)
    (hA : DataW.TrodAll enc Try.prog W 0 (fun _ => true) true Try.f4.params.toList args.toList ds ps)
    (hlt : ∀ x ∈ ps, x.block < W.heap.size) (hfz : W.noneFrozen ps)
    (hsz : (DataW.weightsEach Try.prog Try.f4.params.toList ds).all (· ≤ reachBytes) = true) :
    Calls Try.prog 4 args W fun e W' => e = .returned (.bool true) ∧ Below W.heap.size W W' := by
  rw [Try.params4] at hA hval hsz
  obtain ⟨v0, v1, v2, d0, d1, d2, p0, p1, p2, hargs, rfl, rfl, h0, h1, h2⟩ := trodAll_three hA
  obtain rfl : args = #[v0, v1, v2] := by cases args; simp_all
  obtain ⟨j, so, sc, rfl, hj, hsrc⟩ := open_job (hval 0 28 v0 rfl rfl) h0
  obtain ⟨x, rfl, hx⟩ := open_wk (hval 1 30 v1 rfl rfl) h1
  obtain ⟨ao, ca, m, rfl, _, _, hm⟩ := open_slice_arg (R := Rep.prod Rep.u32 (Rep.prod Rep.u32 Rep.unit)) (opens_slice Try.underlying31 (by kernel_rfl) (by decide) arc_opens1) Try.underlying31 (hval 2 31 v2 rfl rfl) h2
  have h := arcs_walk j hj so sc x hx _ ao ca _ W hsrc hm.unpair
  rw [List.length_map] at h
  exact h

theorem stepArcs_isLaw : IsLaw Rows.stepArcsSpec 3 := ⟨rfl, fun H ds h => by match ds, h with | [d1, d2, d3], _ => exact ⟨rfl, rfl, rfl⟩⟩

set_option maxRecDepth 100000 in
theorem stepArcs_lifted (os : Os) (started : os.Started) (H : Type) (enc : TypeId × Value → H) :
    ReturnsInHanded {} Try.checked os 4 .any (Rows.stepArcsSpec.pre6 enc Try.prog Try.f4 Rows.stepArcsRow.domain false) (Rows.stepArcsSpec.post enc Try.prog Try.f4 false true false false) :=
  law_lifted (C := Try.checked) (by kernel_rfl) started (by kernel_rfl) Try.func4 stepArcs_isLaw (by kernel_rfl) (by kernel_rfl) rfl Try.underlying4
    (ChangeSpec.witness6 (enc := enc) (C := Try.checked) false ⟨#[], #[.agg #[.int .u8 0, .int .u64 0, .int .u32 0, .int .u32 0, .slice none 0 0, .int .u32 0, .int .u32 0, .int .u32 0, .int .u32 0, .int .u32 0, .int .u32 0, .int .u32 0, .int .u32 0, .int .u32 0, .int .u32 0], .agg #[.int .u32 0, .int .u32 0, .int .u32 0, .int .u32 0, .int .u32 0, .int .u32 0, .int .u32 0], .slice none 0 0], []⟩ 8 (by kernel_rfl) (by kernel_rfl) (by kernel_rfl) (by kernel_rfl))
    (fun W base args ds ps hval hA hlt hfz hsz => stepArcs_open W base args ds ps hval hA hlt hfz hsz)

theorem stepArcs_holds : Rows.StepArcsSaid :=
  OpenClaim.holds_of_wide 4 Try.f4 rfl rfl rfl rfl rfl rfl rfl ⟨rfl, rfl, rfl, rfl, rfl⟩ rfl rfl rfl rfl rfl (by kernel_rfl) Try.func4 (by kernel_rfl)
    (of_decide_eq_true (by kernel_rfl)) (by unfold Func.isWrapper; first | (rw [if_pos (by decide +kernel)]; kernel_rfl) | (rw [if_neg (by decide +kernel)]; exact ⟨rfl, rfl⟩))
    (fun os started H enc _ => stepArcs_lifted os started H enc)
#print axioms stepArcs_holds
end Go.Proofs.Ytlgnpogmgpgdaaa
