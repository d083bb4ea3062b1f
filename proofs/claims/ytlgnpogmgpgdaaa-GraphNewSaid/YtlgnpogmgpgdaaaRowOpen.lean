/- Arcs and a row among the arguments. -/
import Derived.Test.YtlgnpogmgpgdaaaBdRows
import Derived.Test.YtlgnpogmgpgdaaaProg
import Derived.Test.YtlgnpogmgpgdaaaChecked
import Derived.Test.YtlgnpogmgpgdaaaLaw
namespace Go.Proofs.Ytlgnpogmgpgdaaa
set_option linter.unusedSimpArgs false
set_option linter.unusedVariables false
set_option maxRecDepth 100000
open Go.RowKit
theorem arc_opensA : Opens Try.prog arcRep 42 := by
  have hu := opens_u32 (P := Try.prog) Try.underlying23 (by kernel_rfl)
  have h := opens_struct (P := Try.prog) Try.underlying42 (by kernel_rfl) (.cons (by kernel_rfl) hu (.cons (by kernel_rfl) hu .nil))
  refine ⟨h.1, fun hx => ?_⟩
  obtain ⟨⟨a, b, _⟩, c0, d0, e1, h1, c1, d1, e2, h2, h3⟩ := h.2 hx
  exact ⟨(a, b), c0, c1, by rw [e1, e2, show d1 = [] from h3, List.append_nil], h1, h2⟩
theorem row_opens : Opens Try.prog rowRep 80 := by
  have h := opens_struct (P := Try.prog) Try.underlying80 (by kernel_rfl) (.cons (by kernel_rfl) (opens_u32 Try.underlying23 (by kernel_rfl)) (.cons (by kernel_rfl) (opens_slice Try.underlying31 (by kernel_rfl) (by decide) arc_opensA) .nil))
  refine ⟨h.1, fun hx => ?_⟩
  obtain ⟨⟨a, b, _⟩, c, d, hc, h1, e, f, hd, h2, hf⟩ := h.2 hx
  exact ⟨(a, b), c, e, by rw [hc, hd, show f = [] from hf, List.append_nil], h1, h2⟩
end Go.Proofs.Ytlgnpogmgpgdaaa
