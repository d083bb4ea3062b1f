/- WalkArcs: what there may be in memory; a walk begins at its source and goes along arcs or, if it restarts, to the source, and ends as the law says. No condition. -/
import Derived.Test.YtcklfffeimnfeaaGreatRows
import Derived.Test.YtcklfffeimnfeaaGreatBx12
import Derived.Test.YtcklfffeimnfeaaGreatWLArcsW
import Derived.Test.YtcklfffeimnfeaaGreatBx22
import Derived.Test.YtcklfffeimnfeaaGreatBx23
namespace Go.Proofs.YtcklfffeimnfeaaGreat
set_option linter.unusedSimpArgs false
set_option linter.unusedVariables false
set_option maxRecDepth 100000
open Go.ChangeShapes Go.WideShapes Go.ChangeAt Go.RowKit

set_option maxRecDepth 100000 in
theorem walkArcs_open {H : Type} {enc : TypeId × Value → H} (W : World) (base : Nat) (args : Array Value) (ds : List (DataW H)) (ps : List MemPlace)
    (hval : ∀ (j : Nat) t v, Tryz.f4.params[j]? = some t → args[j]? = some v → Value.okWide Tryz.prog W .any base t v)
    (hA : DataW.TrodAll enc Tryz.prog W 0 (fun _ => true) true Tryz.f4.params.toList args.toList ds ps)
    (hlt : ∀ x ∈ ps, x.block < W.heap.size) (hfz : W.noneFrozen ps)
    (hsz : (DataW.weightsEach Tryz.prog Tryz.f4.params.toList ds).all (· ≤ reachBytes) = true) :
    Calls Tryz.prog 4 args W fun e W' => e = .returned (.bool true) ∧ Below W.heap.size W W' := by
  rw [Tryz.params4] at hA hval hsz
  obtain ⟨v0, v1, v2, d0, d1, d2, p0, p1, p2, hargs, rfl, rfl, h0, h1, h2⟩ := trodAll_three hA
  obtain rfl : args = #[v0, v1, v2] := by cases args; simp_all
  obtain ⟨ao, ca, m, rfl, _, _, hm⟩ := open_slice_arg (R := edgeRep) (opens_slice Tryz.underlying22 (by kernel_rfl) (by decide) edge_opens) Tryz.underlying22 (hval 0 22 v0 rfl rfl) h0
  obtain ⟨j, so, sc, rfl, hj, hsrc⟩ := open_job (hval 1 29 v1 rfl rfl) h1
  obtain ⟨a, rfl, rfl, rfl, wa⟩ := open_int Tryz.underlying24 (hval 2 24 v2 rfl rfl) h2
  obtain ⟨id, rfl, hid⟩ : ∃ id : Nat, a = (id : Int) ∧ id < 4294967296 := by
    have h' : 0 ≤ a ∧ a ≤ 4294967295 := by simpa [Lit.wf, IntKind.min, IntKind.max, IntKind.signed, IntKind.bits] using wa
    exact ⟨a.toNat, by omega, by omega⟩
  exact arcs_law m ao ca _ j hj so sc id hid W hsrc hm

theorem walkArcs_isLaw : IsLaw Rows.walkArcsSpec 3 := ⟨rfl, fun H ds h => by match ds, h with | [d1, d2, d3], _ => exact ⟨rfl, rfl, rfl⟩⟩

set_option maxRecDepth 100000 in
theorem walkArcs_lifted (os : Os) (started : os.Started) (H : Type) (enc : TypeId × Value → H) :
    ReturnsInHanded {} Tryz.checked os 4 .any (Rows.walkArcsSpec.pre6 enc Tryz.prog Tryz.f4 Rows.walkArcsRow.domain false) (Rows.walkArcsSpec.post enc Tryz.prog Tryz.f4 false true false false) :=
  law_lifted (C := Tryz.checked) (by kernel_rfl) started (by kernel_rfl) Tryz.func4 walkArcs_isLaw (by kernel_rfl) (by kernel_rfl) rfl Tryz.underlying4
    (ChangeSpec.witness6 (enc := enc) (C := Tryz.checked) false ⟨#[], #[.slice none 0 0, .agg #[.int .u8 0, .int .u64 0, .int .u32 0, .int .u32 0, .slice none 0 0, .int .u32 0, .int .u32 0, .int .u32 0, .int .u32 0, .int .u32 0, .int .u32 0, .int .u32 0, .int .u32 0, .int .u32 0, .int .u32 0], .int .u32 0], []⟩ 8 (by kernel_rfl) (by kernel_rfl) (by kernel_rfl) (by kernel_rfl))
    (fun W base args ds ps hval hA hlt hfz hsz => walkArcs_open W base args ds ps hval hA hlt hfz hsz)

theorem walkArcs_holds : Rows.WalkArcsSaid :=
  OpenClaim.holds_of_wide 4 Tryz.f4 rfl rfl rfl rfl rfl rfl rfl ⟨rfl, rfl, rfl, rfl, rfl⟩ rfl rfl rfl rfl rfl (by kernel_rfl) Tryz.func4 (by kernel_rfl)
    (of_decide_eq_true (by kernel_rfl)) (by unfold Func.isWrapper; first | (rw [if_pos (by decide +kernel)]; kernel_rfl) | (rw [if_neg (by decide +kernel)]; exact ⟨rfl, rfl⟩))
    (fun os started H enc _ => walkArcs_lifted os started H enc)
#print axioms walkArcs_holds
end Go.Proofs.YtcklfffeimnfeaaGreat
