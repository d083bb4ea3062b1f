/- []byte(s). -/
import Derived.Test.YtmflopeedofkhaaByText
namespace Go.Proofs.Ytmflopeedofkhaa
set_option linter.unusedSimpArgs false
set_option linter.unusedVariables false
set_option maxRecDepth 100000
open Go.RowKit

theorem conv_sb19 (l : List UInt8) (hl : l.length ≤ 1073741824) (W : World) : ∃ cap W', (convert 9 22 (.string (bs l))).run Try.prog W = .ok (.slice (some ⟨W.heap.size, 0, none⟩) l.length cap) W' ∧ Below W.heap.size W W' ∧ Rd W' (some ⟨W.heap.size, 0, none⟩) l.length (byteVals l) ∧ l.length ≤ cap ∧ cap ≤ maxLen := by
  have h := run_bytes_of_string (P := Try.prog) W 9 22 5 (bs l) Try.underlying9 Try.underlying22 Try.underlying5
  rw [bs_size] at h
  refine ⟨_, _, h, (ext_drew W).alloc (by simp) _, ⟨by simp [byteVals], .inr ⟨W.heap.size, 0, rfl, by simp, fun j hj => ?_⟩⟩, grownCap_ge _ _ _ _, grownCap_le_maxLen _ _ _ _ (by simp [maxLen]; omega)⟩
  rw [Nat.zero_add]
  have hc : ((W.drew).alloc (.cells (bytesRow (bs l) (grownCap W l.length 0 5)) 5 ((bytesRow (bs l) (grownCap W l.length 0 5)).size, (bytesRow (bs l) (grownCap W l.length 0 5)).size + 1))).cell? ⟨W.heap.size, j, none⟩ = (bytesRow (bs l) (grownCap W l.length 0 5))[j]? :=
    World.cell?_alloc_mark W.drew _ _ _ j
  rw [hc, bytesRow_at _ _ _ (by simpa [bs] using hj)]
  simp [byteVals, bs, List.getElem?_eq_getElem hj]
end Go.Proofs.Ytmflopeedofkhaa
