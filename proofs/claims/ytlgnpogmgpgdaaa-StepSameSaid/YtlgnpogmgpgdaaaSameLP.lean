/- StepSame: what there may be in memory, how many are told, and how long others walk changes no move. No condition. -/
import Derived.Test.YtlgnpogmgpgdaaaRows
import Derived.Test.YtlgnpogmgpgdaaaLaw
import Derived.Test.YtlgnpogmgpgdaaaSameLW
import Derived.Test.YtlgnpogmgpgdaaaArcOpen
namespace Go.Proofs.Ytlgnpogmgpgdaaa
set_option linter.unusedSimpArgs false
set_option linter.unusedVariables false
set_option maxRecDepth 100000
open Go.ChangeShapes Go.WideShapes Go.ChangeAt Go.RowKit

theorem open_bud {H : Type} {enc : TypeId × Value → H} {W : World} {base : Nat} {v : Value} {d : DataW H} {p : List MemPlace} (hval : Value.okWide Try.prog W .any base 26 v) (h : DataW.Trod enc Try.prog W 0 (fun _ => true) true 26 v d p) :
    ∃ a b c d : Nat, v = .agg #[.int .u32 (a : Nat), .int .u32 (b : Nat), .int .u32 (c : Nat), .int .u32 (d : Nat)] ∧ a < 4294967296 ∧ b < 4294967296 ∧ c < 4294967296 ∧ d < 4294967296 := by
  obtain ⟨cs, rfl, hsz⟩ := Go.WideShapes.okWide_struct Try.underlying26 hval
  obtain ⟨fuel, hf⟩ := h
  obtain ⟨⟨a, b, c, d, _⟩, _, _, e1, ⟨rfl, h1⟩, _, _, rfl, ⟨rfl, h2⟩, _, _, rfl, ⟨rfl, h3⟩, _, _, rfl, ⟨rfl, h4⟩, rfl⟩ := bud_opens.2 hf
  exact ⟨a, b, c, d, congrArg Value.agg (Array.toList_inj.1 e1), h1, h2, h3, h4⟩

set_option maxRecDepth 100000 in
theorem stepSame_open {H : Type} {enc : TypeId × Value → H} (W : World) (base : Nat) (args : Array Value) (ds : List (DataW H)) (ps : List MemPlace)
    (hval : ∀ (j : Nat) t v, Try.f5.params[j]? = some t → args[j]? = some v → Value.okWide Try.prog W .any base t v)
    (hA : DataW.TrodAll enc Try.prog W 0 (fun _ => true) true Try.f5.params.toList args.toList ds ps)
    (hlt : ∀ x ∈ ps, x.block < W.heap.size) (hfz : W.noneFrozen ps)
    (hsz : (DataW.weightsEach Try.prog Try.f5.params.toList ds).all (· ≤ reachBytes) = true) :
    Calls Try.prog 5 args W fun e W' => e = .returned (.bool true) ∧ Below W.heap.size W W' := by
  rw [Try.params5] at hA hval hsz
  obtain ⟨v0, vs0, d0, ds0, p0, q0, hargs, rfl, rfl, h0, r0⟩ := trodAll_cons hA
  obtain ⟨v1, vs1, d1, ds1, p1, q1, rfl, rfl, rfl, h1, r1⟩ := trodAll_cons r0
  obtain ⟨v2, vs2, d2, ds2, p2, q2, rfl, rfl, rfl, h2, r2⟩ := trodAll_cons r1
  obtain ⟨v3, vs3, d3, ds3, p3, q3, rfl, rfl, rfl, h3, r3⟩ := trodAll_cons r2
  obtain ⟨v4, vs4, d4, ds4, p4, q4, rfl, rfl, rfl, h4, r4⟩ := trodAll_cons r3
  obtain ⟨v5, vs5, d5, ds5, p5, q5, rfl, rfl, rfl, h5, r5⟩ := trodAll_cons r4
  obtain ⟨v6, vs6, d6, ds6, p6, q6, rfl, rfl, rfl, h6, r6⟩ := trodAll_cons r5
  obtain ⟨rfl, rfl, rfl⟩ := trodAll_nil r6
  obtain rfl : args = #[v0, v1, v2, v3, v4, v5, v6] := by cases args; simp_all
  obtain ⟨j, so, sc, rfl, hj, hsrc⟩ := open_job (hval 0 28 v0 rfl rfl) h0
  obtain ⟨x, rfl, hx⟩ := open_wk (hval 1 30 v1 rfl rfl) h1
  obtain ⟨ao, ca, m, rfl, _, _, hm⟩ := open_slice_arg (R := Rep.prod Rep.u32 (Rep.prod Rep.u32 Rep.unit)) (opens_slice Try.underlying31 (by kernel_rfl) (by decide) arc_opens1) Try.underlying31 (hval 2 31 v2 rfl rfl) h2
  obtain ⟨bo, cb, n, rfl, _, _, hn⟩ := open_slice_arg (R := Rep.prod Rep.u64 (Rep.prod Rep.u32 Rep.unit)) (opens_slice Try.underlying32 (by kernel_rfl) (by decide) cell_opens1) Try.underlying32 (hval 3 32 v3 rfl rfl) h3
  obtain ⟨b0, b1, b2, b3, rfl, k0, k1, k2, k3⟩ := open_bud (hval 4 26 v4 rfl rfl) h4
  obtain ⟨be, rfl, rfl, rfl, wbe⟩ := open_int Try.underlying23 (hval 5 23 v5 rfl rfl) h5
  obtain ⟨lo, rfl, rfl, rfl, wlo⟩ := open_int Try.underlying23 (hval 6 23 v6 rfl rfl) h6
  have hbe : 0 ≤ be ∧ be ≤ 4294967295 := by simpa [Lit.wf, IntKind.min, IntKind.max, IntKind.signed, IntKind.bits] using wbe
  have hlo : 0 ≤ lo ∧ lo ≤ 4294967295 := by simpa [Lit.wf, IntKind.min, IntKind.max, IntKind.signed, IntKind.bits] using wlo
  have h := same_walk j hj so sc x hx _ _ ao bo ca cb _ _ b0 b1 b2 b3 be.toNat lo.toNat k0 k1 k2 k3 (by omega) (by omega) W hsrc hm.unpair hn.unpair
  rw [List.length_map, List.length_map, Int.toNat_of_nonneg hbe.1, Int.toNat_of_nonneg hlo.1] at h
  exact h

theorem stepSame_isLaw : IsLaw Rows.stepSameSpec 7 := ⟨rfl, fun H ds h => by match ds, h with | [d1, d2, d3, d4, d5, d6, d7], _ => exact ⟨rfl, rfl, rfl⟩⟩

set_option maxRecDepth 100000 in
theorem stepSame_lifted (os : Os) (started : os.Started) (H : Type) (enc : TypeId × Value → H) :
    ReturnsInHanded {} Try.checked os 5 .any (Rows.stepSameSpec.pre6 enc Try.prog Try.f5 Rows.stepSameRow.domain false) (Rows.stepSameSpec.post enc Try.prog Try.f5 false true false false) :=
  law_lifted (C := Try.checked) (by kernel_rfl) started (by kernel_rfl) Try.func5 stepSame_isLaw (by kernel_rfl) (by kernel_rfl) rfl Try.underlying4
    (ChangeSpec.witness6 (enc := enc) (C := Try.checked) false ⟨#[], #[.agg #[.int .u8 0, .int .u64 0, .int .u32 0, .int .u32 0, .slice none 0 0, .int .u32 0, .int .u32 0, .int .u32 0, .int .u32 0, .int .u32 0, .int .u32 0, .int .u32 0, .int .u32 0, .int .u32 0, .int .u32 0], .agg #[.int .u32 0, .int .u32 0, .int .u32 0, .int .u32 0, .int .u32 0, .int .u32 0, .int .u32 0], .slice none 0 0, .slice none 0 0, .agg #[.int .u32 0, .int .u32 0, .int .u32 0, .int .u32 0], .int .u32 0, .int .u32 0], []⟩ 8 (by kernel_rfl) (by kernel_rfl) (by kernel_rfl) (by kernel_rfl))
    (fun W base args ds ps hval hA hlt hfz hsz => stepSame_open W base args ds ps hval hA hlt hfz hsz)

theorem stepSame_holds : Rows.StepSameSaid :=
  OpenClaim.holds_of_wide 5 Try.f5 rfl rfl rfl rfl rfl rfl rfl ⟨rfl, rfl, rfl, rfl, rfl⟩ rfl rfl rfl rfl rfl (by kernel_rfl) Try.func5 (by kernel_rfl)
    (of_decide_eq_true (by kernel_rfl)) (by unfold Func.isWrapper; first | (rw [if_pos (by decide +kernel)]; kernel_rfl) | (rw [if_neg (by decide +kernel)]; exact ⟨rfl, rfl⟩))
    (fun os started H enc _ => stepSame_lifted os started H enc)
#print axioms stepSame_holds
end Go.Proofs.Ytlgnpogmgpgdaaa
