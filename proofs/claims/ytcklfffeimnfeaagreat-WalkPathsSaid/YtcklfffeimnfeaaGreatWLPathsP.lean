/- WalkPaths: what there may be in memory; any walker's walk, over any edges' graph, is the document's. No condition. -/
import Derived.Test.YtcklfffeimnfeaaGreatRows
import Derived.Test.YtcklfffeimnfeaaGreatBx12
import Derived.Test.YtcklfffeimnfeaaGreatWLPathsW
import Derived.Test.YtcklfffeimnfeaaGreatBx22
import Derived.Test.YtcklfffeimnfeaaGreatBx23
set_option maxRecDepth 100000
set_option maxHeartbeats 12800000
set_option linter.unusedSimpArgs false
set_option linter.unusedVariables false
namespace Go.Proofs.YtcklfffeimnfeaaGreat
open Go.ChangeShapes Go.WideShapes Go.ChangeAt Go.RowKit

theorem walkPaths_open {H : Type} {enc : TypeId × Value → H} (W : World) (base : Nat) (args : Array Value) (ds : List (DataW H)) (ps : List MemPlace)
    (hval : ∀ (j : Nat) t v, Tryz.f3.params[j]? = some t → args[j]? = some v → Value.okWide Tryz.prog W .any base t v)
    (hA : DataW.TrodAll enc Tryz.prog W 0 (fun _ => true) true Tryz.f3.params.toList args.toList ds ps)
    (hlt : ∀ x ∈ ps, x.block < W.heap.size) (hfz : W.noneFrozen ps)
    (hsz : (DataW.weightsEach Tryz.prog Tryz.f3.params.toList ds).all (· ≤ reachBytes) = true) :
    Calls Tryz.prog 3 args W fun e W' => e = .returned (.bool true) ∧ Below W.heap.size W W' := by
  rw [Tryz.params3] at hA hval hsz
  obtain ⟨v0, v1, v2, d0, d1, d2, p0, p1, p2, hargs, rfl, rfl, h0, h1, h2⟩ := trodAll_three hA
  obtain rfl : args = #[v0, v1, v2] := by cases args; simp_all
  obtain ⟨ao, ca, m, rfl, _, _, hm⟩ := open_slice_arg (R := edgeRep) (opens_slice Tryz.underlying22 (by kernel_rfl) (by decide) edge_opens) Tryz.underlying22 (hval 0 22 v0 rfl rfl) h0
  obtain ⟨j, so, sc, rfl, hj, hsrc⟩ := open_job (hval 1 29 v1 rfl rfl) h1
  obtain ⟨a, rfl, rfl, rfl, wa⟩ := open_int Tryz.underlying24 (hval 2 24 v2 rfl rfl) h2
  obtain ⟨id, rfl, hid⟩ : ∃ id : Nat, a = (id : Int) ∧ id < 4294967296 := by
    have h' : 0 ≤ a ∧ a ≤ 4294967295 := by simpa [Lit.wf, IntKind.min, IntKind.max, IntKind.signed, IntKind.bits] using wa
    exact ⟨a.toNat, by omega, by omega⟩
  exact paths22_walk m ao ca _ j hj so sc id hid W hsrc hm

theorem walkPaths_isLaw : IsLaw Rows.walkPathsSpec 3 := ⟨rfl, fun H ds h => by match ds, h with | [d1, d2, d3], _ => exact ⟨rfl, rfl, rfl⟩⟩

theorem walkPaths_lifted (os : Os) (started : os.Started) (H : Type) (enc : TypeId × Value → H) :
    ReturnsInHanded {} Tryz.checked os 3 .any (Rows.walkPathsSpec.pre6 enc Tryz.prog Tryz.f3 Rows.walkPathsRow.domain false) (Rows.walkPathsSpec.post enc Tryz.prog Tryz.f3 false true false false) :=
  law_lifted (C := Tryz.checked) (by kernel_rfl) started (by kernel_rfl) Tryz.func3 walkPaths_isLaw (by kernel_rfl) (by kernel_rfl) rfl Tryz.underlying4
    (ChangeSpec.witness6 (enc := enc) (C := Tryz.checked) false ⟨#[], #[.slice none 0 0, .agg #[.int .u8 0, .int .u64 0, .int .u32 0, .int .u32 0, .slice none 0 0, .int .u32 0, .int .u32 0, .int .u32 0, .int .u32 0, .int .u32 0, .int .u32 0, .int .u32 0, .int .u32 0, .int .u32 0, .int .u32 0], .int .u32 0], []⟩ 8 (by kernel_rfl) (by kernel_rfl) (by kernel_rfl) (by kernel_rfl))
    (fun W base args ds ps hval hA hlt hfz hsz => walkPaths_open W base args ds ps hval hA hlt hfz hsz)

theorem walkPaths_holds : Rows.WalkPathsSaid :=
  OpenClaim.holds_of_wide 3 Tryz.f3 rfl rfl rfl rfl rfl rfl rfl ⟨rfl, rfl, rfl, rfl, rfl⟩ rfl rfl rfl rfl rfl (by kernel_rfl) Tryz.func3 (by kernel_rfl)
    (of_decide_eq_true (by kernel_rfl)) (by unfold Func.isWrapper; first | (rw [if_pos (by decide +kernel)]; kernel_rfl) | (rw [if_neg (by decide +kernel)]; exact ⟨rfl, rfl⟩))
    (fun os started H enc _ => walkPaths_lifted os started H enc)
#print axioms walkPaths_holds
end Go.Proofs.YtcklfffeimnfeaaGreat
