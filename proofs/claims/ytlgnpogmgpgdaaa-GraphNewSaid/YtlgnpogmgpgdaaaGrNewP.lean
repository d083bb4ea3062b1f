/- GraphNew: whether any rows are a graph is the document's; it has just them, in memory of its own. No condition. -/
import Derived.Test.YtlgnpogmgpgdaaaRows
import Derived.Test.YtlgnpogmgpgdaaaLaw
import Derived.Test.YtlgnpogmgpgdaaaGrNewW
import Derived.Test.YtlgnpogmgpgdaaaRowOpen
namespace Go.Proofs.Ytlgnpogmgpgdaaa
set_option linter.unusedSimpArgs false
set_option linter.unusedVariables false
set_option maxRecDepth 100000
open Go.ChangeShapes Go.WideShapes Go.ChangeAt Go.RowKit

set_option maxRecDepth 100000 in
theorem graphNew_open {H : Type} {enc : TypeId × Value → H} (W : World) (base : Nat) (args : Array Value) (ds : List (DataW H)) (ps : List MemPlace)
    (hval : ∀ (j : Nat) t v, Try.f11.params[j]? = some t → args[j]? = some v → Value.okWide Try.prog W .any base t v)
    (hA : DataW.TrodAll enc Try.prog W 0 (fun _ => true) true Try.f11.params.toList args.toList ds ps)
    (hlt : ∀ x ∈ ps, x.block < W.heap.size) (hfz : W.noneFrozen ps)
    (hsz : (DataW.weightsEach Try.prog Try.f11.params.toList ds).all (· ≤ reachBytes) = true) :
    Calls Try.prog 11 args W fun e W' => e = .returned (.bool true) ∧ Below W.heap.size W W' := by
  rw [Try.params11] at hA hval hsz
  obtain ⟨v0, v1, d0, d1, p0, p1, hargs, rfl, rfl, h0, h1⟩ := trodAll_two hA
  obtain rfl : args = #[v0, v1] := by cases args; simp_all
  obtain ⟨ao, ca, m, rfl, hc1, hc2, hm⟩ := open_slice_arg (R := rowRep) (opens_slice Try.underlying47 (by kernel_rfl) (by decide) row_opens) Try.underlying47 (hval 0 47 v0 rfl rfl) h0
  obtain ⟨a, rfl, rfl, rfl, wa⟩ := open_int Try.underlying23 (hval 1 23 v1 rfl rfl) h1
  obtain ⟨v, rfl⟩ : ∃ v : Nat, a = (v : Int) := by
    have h' : 0 ≤ a ∧ a ≤ 4294967295 := by simpa [Lit.wf, IntKind.min, IntKind.max, IntKind.signed, IntKind.bits] using wa
    exact ⟨a.toNat, by omega⟩
  exact grnew_walk m ao ca v _ W hc1 hc2 hm

theorem graphNew_isLaw : IsLaw Rows.graphNewSpec 2 := ⟨rfl, fun H ds h => by match ds, h with | [d0, d1], _ => exact ⟨rfl, rfl, rfl⟩⟩

set_option maxRecDepth 100000 in
theorem graphNew_lifted (os : Os) (started : os.Started) (H : Type) (enc : TypeId × Value → H) :
    ReturnsInHanded {} Try.checked os 11 .any (Rows.graphNewSpec.pre6 enc Try.prog Try.f11 Rows.graphNewRow.domain false) (Rows.graphNewSpec.post enc Try.prog Try.f11 false true false false) :=
  law_lifted (C := Try.checked) (by kernel_rfl) started (by kernel_rfl) Try.func11 graphNew_isLaw (by kernel_rfl) (by kernel_rfl) rfl Try.underlying4
    (ChangeSpec.witness6 (enc := enc) (C := Try.checked) false ⟨#[], #[.slice none 0 0, .int .u32 0], []⟩ 8 (by kernel_rfl) (by kernel_rfl) (by kernel_rfl) (by kernel_rfl))
    (fun W base args ds ps hval hA hlt hfz hsz => graphNew_open W base args ds ps hval hA hlt hfz hsz)

theorem graphNew_holds : Rows.GraphNewSaid :=
  OpenClaim.holds_of_wide 11 Try.f11 rfl rfl rfl rfl rfl rfl rfl ⟨rfl, rfl, rfl, rfl, rfl⟩ rfl rfl rfl rfl rfl (by kernel_rfl) Try.func11 (by kernel_rfl)
    (of_decide_eq_true (by kernel_rfl)) (by unfold Func.isWrapper; first | (rw [if_pos (by decide +kernel)]; kernel_rfl) | (rw [if_neg (by decide +kernel)]; exact ⟨rfl, rfl⟩))
    (fun os started H enc _ => graphNew_lifted os started H enc)
#print axioms graphNew_holds
end Go.Proofs.Ytlgnpogmgpgdaaa
