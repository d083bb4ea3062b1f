/- Strings out of bytes, two strings together. -/
import Derived.Test.YtiojilibkdbpdaaRep
import Derived.Test.YtiojilibkdbpdaaChecked
import Derived.Laws.Concat
namespace Go.Proofs.Ytiojilibkdbpdaa
set_option linter.unusedSimpArgs false
set_option linter.unusedVariables false
set_option maxRecDepth 100000
open Go.RowKit

attribute [go_sem] bs_toList
theorem bs_appS (a b : List UInt8) : bs a ++ bs b = bs (a ++ b) := by
  apply ByteArray.ext
  simp [bs]
theorem str_addS (a b : List UInt8) (h : a.length + b.length ≤ 9223372036854775807) (w : World) : (Op.stringOp .add (bs a) (bs b)).run Try.prog w = .ok (.string (bs (a ++ b))) w := by
  rw [run_string_add_sum w (bs a) (bs b) (by rw [bs_size, bs_size]; exact h), bs_appS]
theorem Rd.convS {w : World} {ao : Option Addr} {n : Nat} {l : List UInt8} (h : Rd w ao n (byteVals l)) (hn : n = l.length) (cap : Nat) : (convert 39 9 (.slice ao n cap)).run Try.prog w = .ok (.string (bs l)) w := by
  subst hn
  rcases h.2 with h2 | ⟨b, off, h1, _, hc⟩
  · obtain rfl := List.eq_nil_of_length_eq_zero h2
    cases ao with
    | none => exact run_string_of Try.underlying39 Try.underlying5 Try.underlying9 (.inl ⟨rfl, rfl⟩)
    | some a =>
      rw [run_convert_bytes_string w 39 9 5 _ _ _ Try.underlying39 Try.underlying5 Try.underlying9]
      have h2 : (loadCells a 0).run Try.prog w = .ok ((([] : List Int).map (Value.int .u8))).toArray w := by
        have h1 := run_firstCells_some (P := Try.prog) w 1 0 a 0 cap [] rfl (fun j u hu => by simp at hu)
        simp only [Builtin.firstCells, Nat.mul_one] at h1
        exact h1
      simp only [List.length_nil]
      rw [run_bytesToString w _ _ _ _ h2]
      rfl
  · refine run_string_of Try.underlying39 Try.underlying5 Try.underlying9 ?_
    exact .inr ⟨b, off, h1, fun j u hu => by rw [hc j (by have := (List.getElem?_eq_some_iff.1 hu).1; simpa [byteVals] using this), hu]⟩
end Go.Proofs.Ytiojilibkdbpdaa
