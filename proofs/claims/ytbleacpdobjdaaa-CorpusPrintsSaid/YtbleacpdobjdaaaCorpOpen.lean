/- A path among the arguments. -/
import Derived.Test.YtbleacpdobjdaaaCorpPaths
namespace Go.Proofs.Ytbleacpdobjdaaa
set_option linter.unusedSimpArgs false
set_option linter.unusedVariables false
open Go.RowKit
theorem path_opens : Opens Try.prog pathRep 64 := by
  have h := opens_struct (P := Try.prog) Try.underlying64 (by kernel_rfl) (.cons (by kernel_rfl) (opens_u32 Try.underlying45 (by kernel_rfl)) (.cons (by kernel_rfl) (opens_slice Try.underlying62 (by kernel_rfl) Nat.one_pos (opens_u32 Try.underlying45 (by kernel_rfl))) .nil))
  refine ⟨h.1, fun hx => ?_⟩
  obtain ⟨⟨a, b, _⟩, c, d, hc, h1, e, f, hd, h2, hf⟩ := h.2 hx
  exact ⟨(a, b), c, e, by rw [hc, hd, show f = [] from hf, List.append_nil], h1, h2⟩
end Go.Proofs.Ytbleacpdobjdaaa
