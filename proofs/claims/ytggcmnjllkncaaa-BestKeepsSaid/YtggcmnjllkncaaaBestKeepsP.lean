/- BestKeeps: behind each visit that is put, of one source, those that are kept are the document's. No condition. -/
import Derived.Test.YtggcmnjllkncaaaRows
import Derived.Test.YtggcmnjllkncaaaLaw
import Derived.Test.YtggcmnjllkncaaaBestKeepsW
import Derived.Test.YtggcmnjllkncaaaBestOpen
namespace Go.Proofs.Ytggcmnjllkncaaa
set_option linter.unusedSimpArgs false
set_option linter.unusedVariables false
set_option maxRecDepth 100000
open Go.ChangeShapes Go.WideShapes Go.ChangeAt Go.RowKit

set_option maxRecDepth 100000 in
theorem bestKeeps_open {H : Type} {enc : TypeId × Value → H} (W : World) (base : Nat) (args : Array Value) (ds : List (DataW H)) (ps : List MemPlace)
    (hval : ∀ (j : Nat) t v, Try.f3.params[j]? = some t → args[j]? = some v → Value.okWide Try.prog W .any base t v)
    (hA : DataW.TrodAll enc Try.prog W 0 (fun _ => true) true Try.f3.params.toList args.toList ds ps)
    (hlt : ∀ x ∈ ps, x.block < W.heap.size) (hfz : W.noneFrozen ps)
    (hsz : (DataW.weightsEach Try.prog Try.f3.params.toList ds).all (· ≤ reachBytes) = true) :
    Calls Try.prog 3 args W fun e W' => e = .returned (.bool true) ∧ Below W.heap.size W W' := by
  rw [Try.params3] at hA hval hsz
  obtain ⟨v0, v1, v2, d0, d1, d2, p0, p1, p2, hargs, rfl, rfl, h0, h1, h2⟩ := trodAll_three hA
  obtain rfl : args = #[v0, v1, v2] := by cases args; simp_all
  obtain ⟨ao, ca, m, rfl, _, _, hm⟩ := open_slice_arg (R := visRep) (opens_slice Try.underlying22 (by kernel_rfl) (by decide) vis_opens) Try.underlying22 (hval 0 22 v0 rfl rfl) h0
  obtain ⟨s, rfl, rfl, rfl, ws⟩ := open_int Try.underlying23 (hval 1 23 v1 rfl rfl) h1
  obtain ⟨a, rfl, rfl, rfl, wa⟩ := open_int Try.underlying3 (hval 2 3 v2 rfl rfl) h2
  have wa' : -9223372036854775808 ≤ a ∧ a ≤ 9223372036854775807 := by simpa [Lit.wf, IntKind.min, IntKind.max, IntKind.signed, IntKind.bits] using wa
  have ws' : 0 ≤ s ∧ s ≤ 4294967295 := by simpa [Lit.wf, IntKind.min, IntKind.max, IntKind.signed, IntKind.bits] using ws
  obtain ⟨v, rfl⟩ : ∃ v : Nat, s = (v : Int) := ⟨s.toNat, by omega⟩
  exact bkeeps_walk m ao ca v a _ W (by omega) wa'.1 wa'.2 hm

theorem bestKeeps_isLaw : IsLaw Rows.bestKeepsSpec 3 := ⟨rfl, fun H ds h => by match ds, h with | [d0, d1, d2], _ => exact ⟨rfl, rfl, rfl⟩⟩

set_option maxRecDepth 100000 in
theorem bestKeeps_lifted (os : Os) (started : os.Started) (H : Type) (enc : TypeId × Value → H) :
    ReturnsInHanded {} Try.checked os 3 .any (Rows.bestKeepsSpec.pre6 enc Try.prog Try.f3 Rows.bestKeepsRow.domain false) (Rows.bestKeepsSpec.post enc Try.prog Try.f3 false true false false) :=
  law_lifted (C := Try.checked) (by kernel_rfl) started (by kernel_rfl) Try.func3 bestKeeps_isLaw (by kernel_rfl) (by kernel_rfl) rfl Try.underlying4
    (ChangeSpec.witness6 (enc := enc) (C := Try.checked) false ⟨#[], #[.slice none 0 0, .int .u32 0, .int .i64 0], []⟩ 8 (by kernel_rfl) (by kernel_rfl) (by kernel_rfl) (by kernel_rfl))
    (fun W base args ds ps hval hA hlt hfz hsz => bestKeeps_open W base args ds ps hval hA hlt hfz hsz)

theorem bestKeeps_holds : Rows.BestKeepsSaid :=
  OpenClaim.holds_of_wide 3 Try.f3 rfl rfl rfl rfl rfl rfl rfl ⟨rfl, rfl, rfl, rfl, rfl⟩ rfl rfl rfl rfl rfl (by kernel_rfl) Try.func3 (by kernel_rfl)
    (of_decide_eq_true (by kernel_rfl)) (by unfold Func.isWrapper; first | (rw [if_pos (by decide +kernel)]; kernel_rfl) | (rw [if_neg (by decide +kernel)]; exact ⟨rfl, rfl⟩))
    (fun os started H enc _ => bestKeeps_lifted os started H enc)
#print axioms bestKeeps_holds
end Go.Proofs.Ytggcmnjllkncaaa
