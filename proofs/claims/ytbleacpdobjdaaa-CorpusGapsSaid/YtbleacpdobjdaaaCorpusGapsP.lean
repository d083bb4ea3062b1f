/- CorpusGaps: whatever the paths and the number, the law returns true and its input reads as it did. No condition. -/
import Derived.Test.YtbleacpdobjdaaaRows
import Derived.Test.YtbleacpdobjdaaaTextOpen
import Derived.Test.YtbleacpdobjdaaaCorpGapsW
import Derived.Test.YtbleacpdobjdaaaCorpOpen
namespace Go.Proofs.Ytbleacpdobjdaaa
set_option linter.unusedSimpArgs false
set_option linter.unusedVariables false
open Go.ChangeShapes Go.WideShapes Go.ChangeAt Go.RowKit Go.ChangeMaps

theorem corpusGaps_open {H : Type} {enc : TypeId × Value → H} (W : World) (base : Nat) (args : Array Value) (ds : List (DataW H)) (ps : List MemPlace)
    (hval : ∀ (j : Nat) t v, Try.f12.params[j]? = some t → args[j]? = some v → Value.okWide Try.prog W .any base t v)
    (hA : DataW.TrodAll enc Try.prog W 0 (fun _ => true) true Try.f12.params.toList args.toList ds ps)
    (hlt : ∀ x ∈ ps, x.block < W.heap.size) (hfz : W.noneFrozen ps)
    (hsz : (DataW.weightsEach Try.prog Try.f12.params.toList ds).all (· ≤ reachBytes) = true) :
    Calls Try.prog 12 args W fun e W' => e = .returned (.bool true) ∧ Below W.heap.size W W' := by
  rw [Try.params12] at hA hval hsz
  obtain ⟨v0, v1, d0, d1, p0, p1, hargs, rfl, rfl, h0, h1⟩ := trodAll_two hA
  obtain rfl : args = #[v0, v1] := by cases args; simp_all
  obtain ⟨m, rfl, rfl, rfl, wm⟩ := open_int Try.underlying3 (hval 1 3 v1 rfl rfl) h1
  obtain ⟨ao, cap, l, rfl, hc, hc2, hr⟩ := open_slice_arg (R := pathRep) (opens_slice Try.underlying49 (by kernel_rfl) (by decide) path_opens) Try.underlying49 (hval 0 49 v0 rfl rfl) h0
  have hm : -9223372036854775808 ≤ m ∧ m ≤ 9223372036854775807 := by simpa [Lit.wf, IntKind.min, IntKind.max, IntKind.signed, IntKind.bits] using wm
  exact corpusGaps_walk l ao cap m W hm.1 hm.2 hr

theorem corpusGaps_isLaw : IsLaw Rows.corpusGapsSpec 2 := ⟨rfl, fun H ds h => by match ds, h with | [d1, d2], _ => exact ⟨rfl, rfl, rfl⟩⟩

set_option maxRecDepth 100000 in
theorem corpusGaps_lifted (os : Os) (started : os.Started) (H : Type) (enc : TypeId × Value → H) :
    ReturnsInHanded {} Try.checked os 12 .any (Rows.corpusGapsSpec.pre6 enc Try.prog Try.f12 Rows.corpusGapsRow.domain false) (Rows.corpusGapsSpec.post enc Try.prog Try.f12 false true false false) :=
  law_lifted (C := Try.checked) (by kernel_rfl) started (by kernel_rfl) Try.func12 corpusGaps_isLaw (by kernel_rfl) (by kernel_rfl) rfl Try.underlying4
    (ChangeSpec.witness6 (enc := enc) (C := Try.checked) false ⟨#[], #[.slice none 0 0, .int .i64 0], []⟩ 8 (by kernel_rfl) (by kernel_rfl) (by kernel_rfl) (by kernel_rfl))
    (fun W base args ds ps hval hA hlt hfz hsz => corpusGaps_open W base args ds ps hval hA hlt hfz hsz)

theorem corpusGaps_holds : Rows.CorpusGapsSaid :=
  OpenClaim.holds_of_wide 12 Try.f12 rfl rfl rfl rfl rfl rfl rfl ⟨rfl, rfl, rfl, rfl, rfl⟩ rfl rfl rfl rfl rfl (by kernel_rfl) Try.func12 (by kernel_rfl)
    (of_decide_eq_true (by kernel_rfl)) (by unfold Func.isWrapper; first | (rw [if_pos (by decide +kernel)]; kernel_rfl) | (rw [if_neg (by decide +kernel)]; exact ⟨rfl, rfl⟩))
    (fun os started H enc _ => corpusGaps_lifted os started H enc)
#print axioms corpusGaps_holds
end Go.Proofs.Ytbleacpdobjdaaa
