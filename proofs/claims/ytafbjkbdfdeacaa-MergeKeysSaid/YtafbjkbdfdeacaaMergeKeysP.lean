/- MergeKeys: whatever the edges and the bytes, the law returns true and its input reads as it did. No condition. -/
import Derived.Test.YtafbjkbdfdeacaaRows
import Derived.Test.YtafbjkbdfdeacaaTextOpen
import Derived.Test.YtafbjkbdfdeacaaMergeKeysW
import Derived.Lib.SmallJoins
namespace Go.Proofs.Ytafbjkbdfdeacaa
set_option linter.unusedSimpArgs false
set_option linter.unusedVariables false
open Go.ChangeShapes Go.WideShapes Go.ChangeAt Go.RowKit Go.ChangeMaps

set_option maxRecDepth 100000 in
theorem mergeKeys_open {H : Type} {enc : TypeId × Value → H} (W : World) (base : Nat) (args : Array Value) (ds : List (DataW H)) (ps : List MemPlace)
    (hval : ∀ (j : Nat) t v, Try.f3.params[j]? = some t → args[j]? = some v → Value.okWide Try.prog W .any base t v)
    (hA : DataW.TrodAll enc Try.prog W 0 (fun _ => true) true Try.f3.params.toList args.toList ds ps)
    (hlt : ∀ x ∈ ps, x.block < W.heap.size) (hfz : W.noneFrozen ps)
    (hsz : (DataW.weightsEach Try.prog Try.f3.params.toList ds).all (· ≤ reachBytes) = true) :
    Calls Try.prog 3 args W fun e W' => e = .returned (.bool true) ∧ Below W.heap.size W W' := by
  rw [Try.params3] at hA hval hsz
  obtain ⟨v0, v1, v2, d0, d1, d2, p0, p1, p2, hargs, rfl, rfl, h0, h1, h2⟩ := trodAll_three hA
  obtain rfl : args = #[v0, v1, v2] := by cases args; simp_all
  obtain ⟨ao, cap, l, rfl, g1, g2, g3⟩ := open_slice_arg (R := Rep.u8) (opens_slice Try.underlying25 (by kernel_rfl) Nat.one_pos (opens_u8 Try.underlying5 (by kernel_rfl))) Try.underlying25 (hval 2 25 v2 rfl rfl) h2
  obtain ⟨c0, c1, c2, y0, y1, y2, mm, rfl, rfl, rfl, hy0, hy1, hy2⟩ := Joins.open_agg3 Try.underlying24 (by kernel_rfl) (by kernel_rfl) (hval 1 24 v1 rfl rfl) h1
  obtain ⟨a1, e0, rfl, wa1⟩ := DataW.trod_int Try.underlying22 hy0
  obtain ⟨b1, e1, rfl, wb1⟩ := DataW.trod_int Try.underlying22 hy1
  obtain ⟨c1', e2, rfl, wc1'⟩ := DataW.trod_int Try.underlying22 hy2
  simp at e0 e1 e2
  subst e0 e1 e2
  have ha1 : 0 ≤ a1 ∧ a1 ≤ 4294967295 := by simpa [Lit.wf, IntKind.min, IntKind.max, IntKind.signed, IntKind.bits] using wa1
  have hb1 : 0 ≤ b1 ∧ b1 ≤ 4294967295 := by simpa [Lit.wf, IntKind.min, IntKind.max, IntKind.signed, IntKind.bits] using wb1
  have hc1' : 0 ≤ c1' ∧ c1' ≤ 4294967295 := by simpa [Lit.wf, IntKind.min, IntKind.max, IntKind.signed, IntKind.bits] using wc1'
  obtain ⟨c0, c1, c2, y0, y1, y2, mm, rfl, rfl, rfl, hy0, hy1, hy2⟩ := Joins.open_agg3 Try.underlying24 (by kernel_rfl) (by kernel_rfl) (hval 0 24 v0 rfl rfl) h0
  obtain ⟨a0, e0, rfl, wa0⟩ := DataW.trod_int Try.underlying22 hy0
  obtain ⟨b0, e1, rfl, wb0⟩ := DataW.trod_int Try.underlying22 hy1
  obtain ⟨c0', e2, rfl, wc0'⟩ := DataW.trod_int Try.underlying22 hy2
  simp at e0 e1 e2
  subst e0 e1 e2
  have ha0 : 0 ≤ a0 ∧ a0 ≤ 4294967295 := by simpa [Lit.wf, IntKind.min, IntKind.max, IntKind.signed, IntKind.bits] using wa0
  have hb0 : 0 ≤ b0 ∧ b0 ≤ 4294967295 := by simpa [Lit.wf, IntKind.min, IntKind.max, IntKind.signed, IntKind.bits] using wb0
  have hc0' : 0 ≤ c0' ∧ c0' ≤ 4294967295 := by simpa [Lit.wf, IntKind.min, IntKind.max, IntKind.signed, IntKind.bits] using wc0'
  have h := mergeKeys_walk (a0.toNat, b0.toNat, c0'.toNat) (a1.toNat, b1.toNat, c1'.toNat) ⟨by simp only; omega, by simp only; omega, by simp only; omega⟩ ⟨by simp only; omega, by simp only; omega, by simp only; omega⟩ l ao cap W g1 g3.rdU8
  simp only [edgeV, Int.toNat_of_nonneg ha0.1, Int.toNat_of_nonneg hb0.1, Int.toNat_of_nonneg hc0'.1, Int.toNat_of_nonneg ha1.1, Int.toNat_of_nonneg hb1.1, Int.toNat_of_nonneg hc1'.1] at h
  exact h

theorem mergeKeys_isLaw : IsLaw Rows.mergeKeysSpec 3 := ⟨rfl, fun H ds h => by match ds, h with | [d1, d2, d3], _ => exact ⟨rfl, rfl, rfl⟩⟩

set_option maxRecDepth 100000 in
theorem mergeKeys_lifted (os : Os) (started : os.Started) (H : Type) (enc : TypeId × Value → H) :
    ReturnsInHanded {} Try.checked os 3 .any (Rows.mergeKeysSpec.pre6 enc Try.prog Try.f3 Rows.mergeKeysRow.domain false) (Rows.mergeKeysSpec.post enc Try.prog Try.f3 false true false false) :=
  law_lifted (C := Try.checked) (by kernel_rfl) started (by kernel_rfl) Try.func3 mergeKeys_isLaw (by kernel_rfl) (by kernel_rfl) rfl Try.underlying4
    (ChangeSpec.witness6 (enc := enc) (C := Try.checked) false ⟨#[], #[.agg #[.int .u32 0, .int .u32 0, .int .u32 0], .agg #[.int .u32 0, .int .u32 0, .int .u32 0], .slice none 0 0], []⟩ 8 (by kernel_rfl) (by kernel_rfl) (by kernel_rfl) (by kernel_rfl))
    (fun W base args ds ps hval hA hlt hfz hsz => mergeKeys_open W base args ds ps hval hA hlt hfz hsz)

theorem mergeKeys_holds : Rows.MergeKeysSaid :=
  OpenClaim.holds_of_wide 3 Try.f3 rfl rfl rfl rfl rfl rfl rfl ⟨rfl, rfl, rfl, rfl, rfl⟩ rfl rfl rfl rfl rfl (by kernel_rfl) Try.func3 (by kernel_rfl)
    (of_decide_eq_true (by kernel_rfl)) (by unfold Func.isWrapper; first | (rw [if_pos (by decide +kernel)]; kernel_rfl) | (rw [if_neg (by decide +kernel)]; exact ⟨rfl, rfl⟩))
    (fun os started H enc _ => mergeKeys_lifted os started H enc)
#print axioms mergeKeys_holds
end Go.Proofs.Ytafbjkbdfdeacaa
