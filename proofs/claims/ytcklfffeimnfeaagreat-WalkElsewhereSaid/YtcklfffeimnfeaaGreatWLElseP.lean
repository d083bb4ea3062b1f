/- WalkElsewhere: what there may be in memory; edges out of vertices to which a walk doesn't come change nothing of it. No condition. -/
import Derived.Test.YtcklfffeimnfeaaGreatRows
import Derived.Test.YtcklfffeimnfeaaGreatBx12
import Derived.Test.YtcklfffeimnfeaaGreatWLElseW
import Derived.Test.YtcklfffeimnfeaaGreatBx22
import Derived.Test.YtcklfffeimnfeaaGreatBx23
namespace Go.Proofs.YtcklfffeimnfeaaGreat
set_option linter.unusedSimpArgs false
set_option linter.unusedVariables false
set_option maxRecDepth 100000
open Go.ChangeShapes Go.WideShapes Go.ChangeAt Go.RowKit

set_option maxRecDepth 100000 in
theorem walkElsewhere_open {H : Type} {enc : TypeId × Value → H} (W : World) (base : Nat) (args : Array Value) (ds : List (DataW H)) (ps : List MemPlace)
    (hval : ∀ (j : Nat) t v, Tryz.f7.params[j]? = some t → args[j]? = some v → Value.okWide Tryz.prog W .any base t v)
    (hA : DataW.TrodAll enc Tryz.prog W 0 (fun _ => true) true Tryz.f7.params.toList args.toList ds ps)
    (hlt : ∀ x ∈ ps, x.block < W.heap.size) (hfz : W.noneFrozen ps)
    (hsz : (DataW.weightsEach Tryz.prog Tryz.f7.params.toList ds).all (· ≤ reachBytes) = true) :
    Calls Tryz.prog 7 args W fun e W' => e = .returned (.bool true) ∧ Below W.heap.size W W' := by
  rw [Tryz.params7] at hA hval hsz
  obtain ⟨v0, vs0, d0, ds0, p0, q0, hargs, rfl, rfl, h0, r0⟩ := trodAll_cons hA
  obtain ⟨v1, vs1, d1, ds1, p1, q1, rfl, rfl, rfl, h1, r1⟩ := trodAll_cons r0
  obtain ⟨v2, vs2, d2, ds2, p2, q2, rfl, rfl, rfl, h2, r2⟩ := trodAll_cons r1
  obtain ⟨v3, vs3, d3, ds3, p3, q3, rfl, rfl, rfl, h3, r3⟩ := trodAll_cons r2
  obtain ⟨rfl, rfl, rfl⟩ := trodAll_nil r3
  obtain rfl : args = #[v0, v1, v2, v3] := by cases args; simp_all
  obtain ⟨ao, ca, m, rfl, _, _, hm⟩ := open_slice_arg (R := edgeRep) (opens_slice Tryz.underlying22 (by kernel_rfl) (by decide) edge_opens) Tryz.underlying22 (hval 0 22 v0 rfl rfl) h0
  obtain ⟨bo, cb, n, rfl, _, _, hn⟩ := open_slice_arg (R := edgeRep) (opens_slice Tryz.underlying22 (by kernel_rfl) (by decide) edge_opens) Tryz.underlying22 (hval 1 22 v1 rfl rfl) h1
  obtain ⟨j, so, sc, rfl, hj, hsrc⟩ := open_job (hval 2 29 v2 rfl rfl) h2
  obtain ⟨c, rfl, rfl, rfl, wc⟩ := open_int Tryz.underlying24 (hval 3 24 v3 rfl rfl) h3
  have hc : 0 ≤ c ∧ c ≤ 4294967295 := by simpa [Lit.wf, IntKind.min, IntKind.max, IntKind.signed, IntKind.bits] using wc
  have h := else_walk m n ao bo ca cb _ _ j hj so sc c.toNat (by omega) W hsrc hm hn
  rw [Int.toNat_of_nonneg hc.1] at h
  exact h

theorem walkElsewhere_isLaw : IsLaw Rows.walkElsewhereSpec 4 := ⟨rfl, fun H ds h => by match ds, h with | [d1, d2, d3, d4], _ => exact ⟨rfl, rfl, rfl⟩⟩

set_option maxRecDepth 100000 in
theorem walkElsewhere_lifted (os : Os) (started : os.Started) (H : Type) (enc : TypeId × Value → H) :
    ReturnsInHanded {} Tryz.checked os 7 .any (Rows.walkElsewhereSpec.pre6 enc Tryz.prog Tryz.f7 Rows.walkElsewhereRow.domain false) (Rows.walkElsewhereSpec.post enc Tryz.prog Tryz.f7 false true false false) :=
  law_lifted (C := Tryz.checked) (by kernel_rfl) started (by kernel_rfl) Tryz.func7 walkElsewhere_isLaw (by kernel_rfl) (by kernel_rfl) rfl Tryz.underlying4
    (ChangeSpec.witness6 (enc := enc) (C := Tryz.checked) false ⟨#[], #[.slice none 0 0, .slice none 0 0, .agg #[.int .u8 0, .int .u64 0, .int .u32 0, .int .u32 0, .slice none 0 0, .int .u32 0, .int .u32 0, .int .u32 0, .int .u32 0, .int .u32 0, .int .u32 0, .int .u32 0, .int .u32 0, .int .u32 0, .int .u32 0], .int .u32 0], []⟩ 8 (by kernel_rfl) (by kernel_rfl) (by kernel_rfl) (by kernel_rfl))
    (fun W base args ds ps hval hA hlt hfz hsz => walkElsewhere_open W base args ds ps hval hA hlt hfz hsz)

theorem walkElsewhere_holds : Rows.WalkElsewhereSaid :=
  OpenClaim.holds_of_wide 7 Tryz.f7 rfl rfl rfl rfl rfl rfl rfl ⟨rfl, rfl, rfl, rfl, rfl⟩ rfl rfl rfl rfl rfl (by kernel_rfl) Tryz.func7 (by kernel_rfl)
    (of_decide_eq_true (by kernel_rfl)) (by unfold Func.isWrapper; first | (rw [if_pos (by decide +kernel)]; kernel_rfl) | (rw [if_neg (by decide +kernel)]; exact ⟨rfl, rfl⟩))
    (fun os started H enc _ => walkElsewhere_lifted os started H enc)
#print axioms walkElsewhere_holds
end Go.Proofs.YtcklfffeimnfeaaGreat
