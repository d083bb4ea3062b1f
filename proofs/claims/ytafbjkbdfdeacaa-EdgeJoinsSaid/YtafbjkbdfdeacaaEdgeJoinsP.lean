/- EdgeJoins: whatever the two texts, the law returns true and its input reads as it did. No condition. -/
import Derived.Test.YtafbjkbdfdeacaaRows
import Derived.Test.YtafbjkbdfdeacaaLaw
import Derived.Test.YtafbjkbdfdeacaaTextOpen
import Derived.Test.YtafbjkbdfdeacaaEdgeJoinsW
namespace Go.Proofs.Ytafbjkbdfdeacaa
set_option linter.unusedSimpArgs false
set_option linter.unusedVariables false
open Go.ChangeShapes Go.WideShapes Go.ChangeAt Go.RowKit Go.ChangeMaps

set_option maxRecDepth 100000 in
theorem edgeJoins_open {H : Type} {enc : TypeId × Value → H} (W : World) (base : Nat) (args : Array Value) (ds : List (DataW H)) (ps : List MemPlace)
    (hval : ∀ (j : Nat) t v, Try.f11.params[j]? = some t → args[j]? = some v → Value.okWide Try.prog W .any base t v)
    (hA : DataW.TrodAll enc Try.prog W 0 (fun _ => true) true Try.f11.params.toList args.toList ds ps)
    (hlt : ∀ x ∈ ps, x.block < W.heap.size) (hfz : W.noneFrozen ps)
    (hsz : (DataW.weightsEach Try.prog Try.f11.params.toList ds).all (· ≤ reachBytes) = true) :
    Calls Try.prog 11 args W fun e W' => e = .returned (.bool true) ∧ Below W.heap.size W W' := by
  rw [Try.params11] at hA hval hsz
  obtain ⟨v0, v1, d0, d1, p0, p1, hargs, rfl, rfl, h0, h1⟩ := trodAll_two hA
  obtain rfl : args = #[v0, v1] := by cases args; simp_all
  obtain ⟨ao, ca, a, rfl, ha, _, _⟩ := open_bytes2 (hval 0 25 v0 rfl rfl) h0
  obtain ⟨bo, cb, b, rfl, hb, hbc, hbm⟩ := open_bytes2 (hval 1 25 v1 rfl rfl) h1
  exact edgeJoins_walk a b ao bo ca cb W ha hb hbc hbm

theorem edgeJoins_isLaw : IsLaw Rows.edgeJoinsSpec 2 := ⟨rfl, fun H ds h => by match ds, h with | [d1, d2], _ => exact ⟨rfl, rfl, rfl⟩⟩

set_option maxRecDepth 100000 in
theorem edgeJoins_lifted (os : Os) (started : os.Started) (H : Type) (enc : TypeId × Value → H) :
    ReturnsInHanded {} Try.checked os 11 .any (Rows.edgeJoinsSpec.pre6 enc Try.prog Try.f11 Rows.edgeJoinsRow.domain false) (Rows.edgeJoinsSpec.post enc Try.prog Try.f11 false true false false) :=
  law_lifted (C := Try.checked) (by kernel_rfl) started (by kernel_rfl) Try.func11 edgeJoins_isLaw (by kernel_rfl) (by kernel_rfl) rfl Try.underlying4
    (ChangeSpec.witness6 (enc := enc) (C := Try.checked) false ⟨#[], #[.slice none 0 0, .slice none 0 0], []⟩ 8 (by kernel_rfl) (by kernel_rfl) (by kernel_rfl) (by kernel_rfl))
    (fun W base args ds ps hval hA hlt hfz hsz => edgeJoins_open W base args ds ps hval hA hlt hfz hsz)

theorem edgeJoins_holds : Rows.EdgeJoinsSaid :=
  OpenClaim.holds_of_wide 11 Try.f11 rfl rfl rfl rfl rfl rfl rfl ⟨rfl, rfl, rfl, rfl, rfl⟩ rfl rfl rfl rfl rfl (by kernel_rfl) Try.func11 (by kernel_rfl)
    (of_decide_eq_true (by kernel_rfl)) (by unfold Func.isWrapper; first | (rw [if_pos (by decide +kernel)]; kernel_rfl) | (rw [if_neg (by decide +kernel)]; exact ⟨rfl, rfl⟩))
    (fun os started H enc _ => edgeJoins_lifted os started H enc)
#print axioms edgeJoins_holds
end Go.Proofs.Ytafbjkbdfdeacaa
