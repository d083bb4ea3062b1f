/- edge.limits, strings.HasPrefix of a mark. -/
import Derived.Test.YtafbjkbdfdeacaaEdgePlain
import Derived.Test.YtafbjkbdfdeacaaTextNum
import Derived.Test.YtafbjkbdfdeacaaTextWords
import Derived.Test.YtafbjkbdfdeacaaTextRefN
import Derived.Test.YtafbjkbdfdeacaaRefOf
namespace Go.Proofs.Ytafbjkbdfdeacaa
set_option linter.unusedSimpArgs false
set_option linter.unusedVariables false
open Go.RowKit

def limE (k : Nat) : Nat := if k = 2 then 2147483647 else 4294967295
def limV : Value := .agg #[.int .u64 4294967295, .int .u64 4294967295, .int .u64 2147483647]
theorem limits_any (w : World) : Calls Try.prog 64 #[] w fun e w' => e = .returned limV ∧ Below w.heap.size w w' := by
  go_enter Try.func64, Try.ntmps64
  go_wp2
  refine bodyPost_ret (v := limV) (by simp [results, Try.results64, go_sem, ↓IntWalk.iteOmega, limV]) rfl ⟨rfl, ?_⟩
  exact ext_alloc w _
theorem prefix_any (l : List UInt8) (w : World) :
    Calls Try.prog 51 #[.string (bs l), .string ⟨#[35]⟩] w fun e w' => e = .returned (.bool (l.head? == some 35)) ∧ w' = w := by
  match l with
  | [] =>
    have h0 : ¬ (1 : Int) ≤ ((bs []).size : Int) := by rw [bs_size]; simp
    have h1 : ((bs []).size : Int) < 1 := by rw [bs_size]; simp
    go_enter Try.func51, Try.ntmps51
    go_wp2
    go_ret
    exact ⟨rfl, rfl⟩
  | c :: r =>
    have h0 : (1 : Int) ≤ ((bs (c :: r)).size : Int) := by rw [bs_size]; simp; omega
    have h1 : ¬ ((bs (c :: r)).size : Int) < 1 := by rw [bs_size]; simp; omega
    have h2 : ((bs (c :: r)).extract 0 1).toList = [c] := by rw [bs_extract, bs_data, bs_toList]; simp
    go_enter Try.func51, Try.ntmps51
    go_wp2
    go_ret
    exact ⟨by simp, rfl⟩
end Go.Proofs.Ytafbjkbdfdeacaa
