/- Visits among the arguments. -/
import Derived.Test.YtggcmnjllkncaaaBestLaw
import Derived.Test.YtggcmnjllkncaaaProg
import Derived.Test.YtggcmnjllkncaaaChecked
namespace Go.Proofs.Ytggcmnjllkncaaa
set_option linter.unusedSimpArgs false
set_option linter.unusedVariables false
set_option maxRecDepth 100000
open Go.RowKit
theorem vis_opens : Opens Try.prog visRep 31 := by
  have hu := opens_u32 (P := Try.prog) Try.underlying23 (by kernel_rfl)
  have h64 := opens_u64 (P := Try.prog) Try.underlying29 (by kernel_rfl)
  have h := opens_struct (P := Try.prog) Try.underlying31 (by kernel_rfl) (.cons (by kernel_rfl) hu (.cons (by kernel_rfl) hu (.cons (by kernel_rfl) h64 .nil)))
  refine ⟨h.1, fun hx => ?_⟩
  obtain ⟨⟨a, b, c, _⟩, c0, d0, e1, h1, c1, d1, e2, h2, c2, d2, e3, h3, h4⟩ := h.2 hx
  exact ⟨(a, b, c), c0, c1 ++ c2, by rw [e1, e2, e3, show d2 = [] from h4, List.append_nil], h1, c1, c2, rfl, h2, h3⟩
end Go.Proofs.Ytggcmnjllkncaaa
