/- TextPuts: the walk. -/
import Derived.Test.YtafbjkbdfdeacaaTextPut
namespace Go.Proofs.Ytafbjkbdfdeacaa
set_option linter.unusedSimpArgs false
set_option linter.unusedVariables false
open Go.RowKit

theorem Rd.conv {w : World} {ao : Option Addr} {l : List UInt8} (h : Rd w ao l.length (byteVals l)) (cap : Nat) : (convert 25 9 (.slice ao l.length cap)).run Try.prog w = .ok (.string (bs l)) w := by
  rcases h.2 with h2 | ⟨b, off, h1, _, hc⟩
  · obtain rfl := List.eq_nil_of_length_eq_zero h2
    cases ao with
    | none => exact run_string_of Try.underlying25 Try.underlying5 Try.underlying9 (.inl ⟨rfl, rfl⟩)
    | some a =>
      rw [run_convert_bytes_string w 25 9 5 _ _ _ Try.underlying25 Try.underlying5 Try.underlying9]
      have h2 : (loadCells a 0).run Try.prog w = .ok ((([] : List Int).map (Value.int .u8))).toArray w := by
        have h1 := run_firstCells_some (P := Try.prog) w 1 0 a 0 cap [] rfl (fun j u hu => by simp at hu)
        simp only [Builtin.firstCells, Nat.mul_one] at h1
        exact h1
      simp only [List.length_nil]
      rw [run_bytesToString w _ _ _ _ h2]
      rfl
  · refine run_string_of Try.underlying25 Try.underlying5 Try.underlying9 ?_
    exact .inr ⟨b, off, h1, fun j u hu => by rw [hc j (by have := (List.getElem?_eq_some_iff.1 hu).1; simpa [byteVals] using this), hu]⟩

theorem puts_below {w w1 w2 w3 : World} {o : Obj} {g1 : Option Nat} (hon1 : Only (fun k => some w.heap.size = some k) (w.alloc o) w1) (hg1 : g1 = some w.heap.size ∨ g1 = some (w.alloc o).heap.size)
    (hon2 : Only (fun k => g1 = some k) w1 w2) (hB3 : Below w2.heap.size w2 w3) : Below w.heap.size w w3 := by
  have hs0 : (w.alloc o).heap.size = w.heap.size + 1 := by simp
  have hs1 := hon1.size
  have hs2 := hon2.size
  have hb1 : Below w.heap.size (w.alloc o) w1 := hon1.below (by omega) (fun k hk e => by cases e; omega)
  have hb2 : Below w.heap.size w1 w2 := hon2.below (by omega) (fun k hk e => by
    subst e
    rcases hg1 with h | h
    · have := Option.some.inj h; omega
    · have := Option.some.inj h; omega)
  exact (((ext_alloc w o).trans hb1).trans hb2).trans (hB3.mono (by omega))

end Go.Proofs.Ytafbjkbdfdeacaa
