/- WalkLonger: what there may be in memory; with more steps a walk begins as it was, and other walkers, bests and budgets change nothing of it. No condition. -/
import Derived.Test.YtcklfffeimnfeaaGreatRows
import Derived.Test.YtcklfffeimnfeaaGreatBx12
import Derived.Test.YtcklfffeimnfeaaGreatWLongW
import Derived.Test.YtcklfffeimnfeaaGreatBx22
import Derived.Test.YtcklfffeimnfeaaGreatBx23
namespace Go.Proofs.YtcklfffeimnfeaaGreat
set_option linter.unusedSimpArgs false
set_option linter.unusedVariables false
set_option maxRecDepth 100000
open Go.ChangeShapes Go.WideShapes Go.ChangeAt Go.RowKit

theorem open_bud {H : Type} {enc : TypeId × Value → H} {W : World} {base : Nat} {v : Value} {d : DataW H} {p : List MemPlace} (hval : Value.okWide Tryz.prog W .any base 27 v) (h : DataW.Trod enc Tryz.prog W 0 (fun _ => true) true 27 v d p) :
    ∃ a b c d : Nat, v = .agg #[.int .u32 (a : Nat), .int .u32 (b : Nat), .int .u32 (c : Nat), .int .u32 (d : Nat)] ∧ a < 4294967296 ∧ b < 4294967296 ∧ c < 4294967296 ∧ d < 4294967296 := by
  obtain ⟨cs, rfl, hsz⟩ := Go.WideShapes.okWide_struct Tryz.underlying27 hval
  obtain ⟨fuel, hf⟩ := h
  obtain ⟨⟨a, b, c, d, _⟩, _, _, e1, ⟨rfl, h1⟩, _, _, rfl, ⟨rfl, h2⟩, _, _, rfl, ⟨rfl, h3⟩, _, _, rfl, ⟨rfl, h4⟩, rfl⟩ := bud_opens.2 hf
  exact ⟨a, b, c, d, congrArg Value.agg (Array.toList_inj.1 e1), h1, h2, h3, h4⟩

set_option maxRecDepth 100000 in
theorem walkLonger_open {H : Type} {enc : TypeId × Value → H} (W : World) (base : Nat) (args : Array Value) (ds : List (DataW H)) (ps : List MemPlace)
    (hval : ∀ (j : Nat) t v, Tryz.f5.params[j]? = some t → args[j]? = some v → Value.okWide Tryz.prog W .any base t v)
    (hA : DataW.TrodAll enc Tryz.prog W 0 (fun _ => true) true Tryz.f5.params.toList args.toList ds ps)
    (hlt : ∀ x ∈ ps, x.block < W.heap.size) (hfz : W.noneFrozen ps)
    (hsz : (DataW.weightsEach Tryz.prog Tryz.f5.params.toList ds).all (· ≤ reachBytes) = true) :
    Calls Tryz.prog 5 args W fun e W' => e = .returned (.bool true) ∧ Below W.heap.size W W' := by
  rw [Tryz.params5] at hA hval hsz
  obtain ⟨v0, vs0, d0, ds0, p0, q0, hargs, rfl, rfl, h0, r0⟩ := trodAll_cons hA
  obtain ⟨v1, vs1, d1, ds1, p1, q1, rfl, rfl, rfl, h1, r1⟩ := trodAll_cons r0
  obtain ⟨v2, vs2, d2, ds2, p2, q2, rfl, rfl, rfl, h2, r2⟩ := trodAll_cons r1
  obtain ⟨v3, vs3, d3, ds3, p3, q3, rfl, rfl, rfl, h3, r3⟩ := trodAll_cons r2
  obtain ⟨v4, vs4, d4, ds4, p4, q4, rfl, rfl, rfl, h4, r4⟩ := trodAll_cons r3
  obtain ⟨v5, vs5, d5, ds5, p5, q5, rfl, rfl, rfl, h5, r5⟩ := trodAll_cons r4
  obtain ⟨rfl, rfl, rfl⟩ := trodAll_nil r5
  obtain rfl : args = #[v0, v1, v2, v3, v4, v5] := by cases args; simp_all
  obtain ⟨ao, ca, m, rfl, _, _, hm⟩ := open_slice_arg (R := edgeRep) (opens_slice Tryz.underlying22 (by kernel_rfl) (by decide) edge_opens) Tryz.underlying22 (hval 0 22 v0 rfl rfl) h0
  obtain ⟨j, so, sc, rfl, hj, hsrc⟩ := open_job (hval 1 29 v1 rfl rfl) h1
  obtain ⟨a, rfl, rfl, rfl, wa⟩ := open_int Tryz.underlying24 (hval 2 24 v2 rfl rfl) h2
  obtain ⟨lo, rfl, rfl, rfl, wlo⟩ := open_int Tryz.underlying24 (hval 3 24 v3 rfl rfl) h3
  obtain ⟨b0, b1, b2, b3, rfl, k0, k1, k2, k3⟩ := open_bud (hval 4 27 v4 rfl rfl) h4
  obtain ⟨be, rfl, rfl, rfl, wbe⟩ := open_int Tryz.underlying24 (hval 5 24 v5 rfl rfl) h5
  have ha : 0 ≤ a ∧ a ≤ 4294967295 := by simpa [Lit.wf, IntKind.min, IntKind.max, IntKind.signed, IntKind.bits] using wa
  have hbe : 0 ≤ be ∧ be ≤ 4294967295 := by simpa [Lit.wf, IntKind.min, IntKind.max, IntKind.signed, IntKind.bits] using wbe
  have hlo : 0 ≤ lo ∧ lo ≤ 4294967295 := by simpa [Lit.wf, IntKind.min, IntKind.max, IntKind.signed, IntKind.bits] using wlo
  have h := longer_walk m ao ca _ j hj so sc a.toNat lo.toNat (by omega) b0 b1 b2 b3 be.toNat k0 k1 k2 k3 (by omega) (by omega) W hsrc hm
  rw [Int.toNat_of_nonneg ha.1, Int.toNat_of_nonneg hbe.1, Int.toNat_of_nonneg hlo.1] at h
  exact h

theorem walkLonger_isLaw : IsLaw Rows.walkLongerSpec 6 := ⟨rfl, fun H ds h => by match ds, h with | [d1, d2, d3, d4, d5, d6], _ => exact ⟨rfl, rfl, rfl⟩⟩

set_option maxRecDepth 100000 in
theorem walkLonger_lifted (os : Os) (started : os.Started) (H : Type) (enc : TypeId × Value → H) :
    ReturnsInHanded {} Tryz.checked os 5 .any (Rows.walkLongerSpec.pre6 enc Tryz.prog Tryz.f5 Rows.walkLongerRow.domain false) (Rows.walkLongerSpec.post enc Tryz.prog Tryz.f5 false true false false) :=
  law_lifted (C := Tryz.checked) (by kernel_rfl) started (by kernel_rfl) Tryz.func5 walkLonger_isLaw (by kernel_rfl) (by kernel_rfl) rfl Tryz.underlying4
    (ChangeSpec.witness6 (enc := enc) (C := Tryz.checked) false ⟨#[], #[.slice none 0 0, .agg #[.int .u8 0, .int .u64 0, .int .u32 0, .int .u32 0, .slice none 0 0, .int .u32 0, .int .u32 0, .int .u32 0, .int .u32 0, .int .u32 0, .int .u32 0, .int .u32 0, .int .u32 0, .int .u32 0, .int .u32 0], .int .u32 0, .int .u32 0, .agg #[.int .u32 0, .int .u32 0, .int .u32 0, .int .u32 0], .int .u32 0], []⟩ 8 (by kernel_rfl) (by kernel_rfl) (by kernel_rfl) (by kernel_rfl))
    (fun W base args ds ps hval hA hlt hfz hsz => walkLonger_open W base args ds ps hval hA hlt hfz hsz)

theorem walkLonger_holds : Rows.WalkLongerSaid :=
  OpenClaim.holds_of_wide 5 Tryz.f5 rfl rfl rfl rfl rfl rfl rfl ⟨rfl, rfl, rfl, rfl, rfl⟩ rfl rfl rfl rfl rfl (by kernel_rfl) Tryz.func5 (by kernel_rfl)
    (of_decide_eq_true (by kernel_rfl)) (by unfold Func.isWrapper; first | (rw [if_pos (by decide +kernel)]; kernel_rfl) | (rw [if_neg (by decide +kernel)]; exact ⟨rfl, rfl⟩))
    (fun os started H enc _ => walkLonger_lifted os started H enc)
#print axioms walkLonger_holds
end Go.Proofs.YtcklfffeimnfeaaGreat
