/- EdgePassed: whatever the edges, the notes and the word, the law returns true and its input reads as it did. No condition. -/
import Derived.Test.YtafbjkbdfdeacaaRows
import Derived.Test.YtafbjkbdfdeacaaLaw
import Derived.Test.YtafbjkbdfdeacaaEdgeOpen
import Derived.Test.YtafbjkbdfdeacaaEdgePassedW
namespace Go.Proofs.Ytafbjkbdfdeacaa
set_option linter.unusedSimpArgs false
set_option linter.unusedVariables false
open Go.ChangeShapes Go.WideShapes Go.ChangeAt Go.RowKit Go.ChangeMaps

set_option maxRecDepth 100000 in
theorem edgePassed_open {H : Type} {enc : TypeId × Value → H} (W : World) (base : Nat) (args : Array Value) (ds : List (DataW H)) (ps : List MemPlace)
    (hval : ∀ (j : Nat) t v, Try.f10.params[j]? = some t → args[j]? = some v → Value.okWide Try.prog W .any base t v)
    (hA : DataW.TrodAll enc Try.prog W 0 (fun _ => true) true Try.f10.params.toList args.toList ds ps)
    (hlt : ∀ x ∈ ps, x.block < W.heap.size) (hfz : W.noneFrozen ps)
    (hsz : (DataW.weightsEach Try.prog Try.f10.params.toList ds).all (· ≤ reachBytes) = true) :
    Calls Try.prog 10 args W fun e W' => e = .returned (.bool true) ∧ Below W.heap.size W W' := by
  rw [Try.params10] at hA hval hsz
  obtain ⟨v0, v1, v2, d0, d1, d2, p0, p1, p2, hargs, rfl, rfl, h0, h1, h2⟩ := trodAll_three hA
  obtain rfl : args = #[v0, v1, v2] := by cases args; simp_all
  obtain ⟨bad, rfl, rfl, rfl⟩ := open_bool Try.underlying4 (hval 2 4 v2 rfl rfl) h2
  obtain ⟨ao, cap, l, rfl, g1, g2, g3⟩ := open_slice_arg (R := edgeRep) (opens_slice Try.underlying53 (by kernel_rfl) (by decide) edge_opens) Try.underlying53 (hval 0 53 v0 rfl rfl) h0
  obtain ⟨no, nc, ns, rfl, e1, e2, e3⟩ := open_slice_arg (R := Rep.str) (opens_slice Try.underlying73 (by kernel_rfl) Nat.one_pos (opens_str Try.underlying9 (by kernel_rfl))) Try.underlying73 (hval 1 73 v1 rfl rfl) h1
  exact edgePassed_walk l ns bad ao no cap nc W g3 e3.rdStr

theorem edgePassed_isLaw : IsLaw Rows.edgePassedSpec 3 := ⟨rfl, fun H ds h => by match ds, h with | [d1, d2, d3], _ => exact ⟨rfl, rfl, rfl⟩⟩

set_option maxRecDepth 100000 in
theorem edgePassed_lifted (os : Os) (started : os.Started) (H : Type) (enc : TypeId × Value → H) :
    ReturnsInHanded {} Try.checked os 10 .any (Rows.edgePassedSpec.pre6 enc Try.prog Try.f10 Rows.edgePassedRow.domain false) (Rows.edgePassedSpec.post enc Try.prog Try.f10 false true false false) :=
  law_lifted (C := Try.checked) (by kernel_rfl) started (by kernel_rfl) Try.func10 edgePassed_isLaw (by kernel_rfl) (by kernel_rfl) rfl Try.underlying4
    (ChangeSpec.witness6 (enc := enc) (C := Try.checked) false ⟨#[], #[.slice none 0 0, .slice none 0 0, .bool false], []⟩ 8 (by kernel_rfl) (by kernel_rfl) (by kernel_rfl) (by kernel_rfl))
    (fun W base args ds ps hval hA hlt hfz hsz => edgePassed_open W base args ds ps hval hA hlt hfz hsz)

theorem edgePassed_holds : Rows.EdgePassedSaid :=
  OpenClaim.holds_of_wide 10 Try.f10 rfl rfl rfl rfl rfl rfl rfl ⟨rfl, rfl, rfl, rfl, rfl⟩ rfl rfl rfl rfl rfl (by kernel_rfl) Try.func10 (by kernel_rfl)
    (of_decide_eq_true (by kernel_rfl)) (by unfold Func.isWrapper; first | (rw [if_pos (by decide +kernel)]; kernel_rfl) | (rw [if_neg (by decide +kernel)]; exact ⟨rfl, rfl⟩))
    (fun os started H enc _ => edgePassed_lifted os started H enc)
#print axioms edgePassed_holds
end Go.Proofs.Ytafbjkbdfdeacaa
