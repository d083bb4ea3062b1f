/- Texts merged into one: EdgeOpen. -/
import Derived.Test.YtcklfffeimnfeaaGreatBx09
import Derived.Test.YtcklfffeimnfeaaGreatProg
import Derived.Test.YtcklfffeimnfeaaGreatChecked
import Derived.Test.YtcklfffeimnfeaaGreatBx12
set_option maxRecDepth 100000
set_option maxHeartbeats 12800000
set_option linter.unusedSimpArgs false
set_option linter.unusedVariables false
namespace Go.Proofs.YtcklfffeimnfeaaGreat
open Go.RowKit
theorem edge_opens : Opens Tryz.prog edgeRep 48 := by
  have hu := opens_u32 (P := Tryz.prog) Tryz.underlying24 (by kernel_rfl)
  have h := opens_struct (P := Tryz.prog) Tryz.underlying48 (by kernel_rfl) (.cons (by kernel_rfl) hu (.cons (by kernel_rfl) hu (.cons (by kernel_rfl) hu .nil)))
  refine ⟨h.1, fun hx => ?_⟩
  obtain ⟨⟨a, b, c, _⟩, c0, d0, e1, h1, c1, d1, e2, h2, c2, d2, e3, h3, h4⟩ := h.2 hx
  exact ⟨(a, b, c), c0, d0, e1, h1, c1, c2, by rw [e2, e3, show d2 = [] from h4, List.append_nil], h2, h3⟩
end Go.Proofs.YtcklfffeimnfeaaGreat
