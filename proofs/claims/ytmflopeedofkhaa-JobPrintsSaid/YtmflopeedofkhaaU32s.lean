/- Rows of numbers of 32 bits, as a call owns them. -/
import Derived.Test.YtmflopeedofkhaaByRep
import Derived.Test.YtmflopeedofkhaaBySort
namespace Go.Proofs.Ytmflopeedofkhaa
set_option linter.unusedSimpArgs false
set_option linter.unusedVariables false
set_option maxRecDepth 100000
open Go.RowKit

def u32s (l : List Nat) : List Value := l.map fun x => .int .u32 (x : Nat)
theorem u32s_one (l : List Nat) : ∀ u ∈ u32s l, u.oneCell' = true := by
  intro u hu
  obtain ⟨x, _, rfl⟩ := List.mem_map.1 hu
  rfl
theorem own_holds {w : World} {b cap : Nat} {g : Option Nat} {e : TypeId} {l : List Nat} (h : Own w (some ⟨b, 0, none⟩) cap g e 1 l.length (u32s l)) : Sort.Holds e32 w b 0 l.toArray := fun i hi => by
  have hi' : i < l.length := by simpa using hi
  refine ⟨?_, by rw [Nat.zero_add]; exact h.frozen i⟩
  rw [Nat.zero_add, h.cell i (by omega)]
  simp only [u32s, List.getElem?_map, List.getElem?_eq_getElem hi', Option.map_some]
  rw [getElem!_pos l.toArray i hi]
  rfl
theorem u32sElem : Elem Try.prog 26 25 1 4 (.int .u32 0) := Elem.mk' Try.underlying26 (by kernel_rfl) rfl (by decide)
theorem app_blocks {w W W' : World} {g g' : Option Nat} (hg : ∀ k, g = some k → w.heap.size ≤ k) (hB : Below w.heap.size w W) (hg' : g' = g ∨ g' = some W.heap.size) (hon : Only (fun k => g = some k) W W') : (∀ k, g' = some k → w.heap.size ≤ k) ∧ Below w.heap.size w W' := by
  refine ⟨fun k h => ?_, hB.trans (hon.below hB.size (fun k hk e => by have := hg k e; omega))⟩
  rcases hg' with rfl | rfl
  · exact hg k h
  · cases h; exact hB.size
end Go.Proofs.Ytmflopeedofkhaa
