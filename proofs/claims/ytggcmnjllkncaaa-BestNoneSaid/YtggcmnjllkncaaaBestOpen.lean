/- Visits among the arguments. -/
import Derived.Test.YtggcmnjllkncaaaBestLaw
import Derived.Test.YtggcmnjllkncaaaProg
import Derived.Test.YtggcmnjllkncaaaChecked
namespace Go.Proofs.Ytggcmnjllkncaaa
set_option linter.unusedSimpArgs false
set_option linter.unusedVariables false
set_option maxRecDepth 100000
open Go.RowKit
theorem vis_opens : Opens Try.prog visRep 31 := by
  have hu := opens_u32 (P := Try.prog) Try.underlying23 (by kernel_rfl)
  have h64 := opens_u64 (P := Try.prog) Try.underlying29 (by kernel_rfl)
  have h := opens_struct (P := Try.prog) Try.underlying31 (by kernel_rfl) (.cons (by kernel_rfl) hu (.cons (by kernel_rfl) hu (.cons (by kernel_rfl) h64 .nil)))
  refine ⟨h.1, fun hx => ?_⟩
  obtain ⟨⟨a, b, c, _⟩, c0, d0, e1, h1, c1, d1, e2, h2, c2, d2, e3, h3, h4⟩ := h.2 hx
  exact ⟨(a, b, c), c0, c1 ++ c2, by rw [e1, e2, e3, show d2 = [] from h4, List.append_nil], h1, c1, c2, rfl, h2, h3⟩
section
open Go.ChangeShapes
variable {H : Type} {enc : TypeId × Value → H} {P : Program} {w : World} {base : Nat} {spare : Nat → Bool} {held : Bool}
theorem trodAll_five {t t' t'' t3 t4 : TypeId} {args : Array Value} {ds : List (DataW H)} {ps : List MemPlace} (h : DataW.TrodAll enc P w base spare held [t, t', t'', t3, t4] args.toList ds ps) :
    ∃ v v' v'' v3 v4 d d' d'' d3 d4 p p' p'' p3 p4, args = #[v, v', v'', v3, v4] ∧ ds = [d, d', d'', d3, d4] ∧ ps = p ++ p' ++ p'' ++ p3 ++ p4 ∧ DataW.Trod enc P w base spare held t v d p ∧ DataW.Trod enc P w base spare held t' v' d' p' ∧ DataW.Trod enc P w base spare held t'' v'' d'' p'' ∧ DataW.Trod enc P w base spare held t3 v3 d3 p3 ∧ DataW.Trod enc P w base spare held t4 v4 d4 p4 := by
  obtain ⟨v, vs, d, ds', p, q, hargs, rfl, rfl, hd, hrest⟩ := trodAll_cons h
  obtain ⟨v', vs', d', ds'', p', q', rfl, rfl, rfl, hd', hrest'⟩ := trodAll_cons hrest
  obtain ⟨v'', vs'', d'', ds''', p'', q'', rfl, rfl, rfl, hd'', hrest''⟩ := trodAll_cons hrest'
  obtain ⟨v3, vs3, d3, ds3, p3, q3, rfl, rfl, rfl, hd3, hrest3⟩ := trodAll_cons hrest''
  obtain ⟨v4, vs4, d4, ds4, p4, q4, rfl, rfl, rfl, hd4, hrest4⟩ := trodAll_cons hrest3
  obtain ⟨rfl, rfl, rfl⟩ := trodAll_nil hrest4
  exact ⟨v, v', v'', v3, v4, d, d', d'', d3, d4, p, p', p'', p3, p4, by cases args; simp_all, rfl, by simp, hd, hd', hd'', hd3, hd4⟩
end
end Go.Proofs.Ytggcmnjllkncaaa
