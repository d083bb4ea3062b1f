/- palmerref19.row. -/
import Derived.Test.YtmflopeedofkhaaByText
import Derived.Test.YtmflopeedofkhaaRetB
namespace Go.Proofs.Ytmflopeedofkhaa
set_option linter.unusedSimpArgs false
set_option linter.unusedVariables false
set_option maxRecDepth 100000
open Go.RowKit

def rowT (k : List UInt8) (n : Nat) : List UInt8 := k ++ [32] ++ digits n ++ [10]
theorem rrow_any (k : List UInt8) (hk : k.length ≤ 100) (n : Nat) (hn : n < 18446744073709551616) (w : World) :
    Calls Try.prog 34 #[.string (bs k), .int .u64 (n : Nat)] w (RetB (.string (bs (rowT k n))) w) := by
  have HP := Lib.hid (fun W => rput_any n hn W)
  have hd := digits_20 n hn
  unfold rowT
  have a1 := str_add k [32] (by simp; omega)
  have a2 := str_add (k ++ [32]) (digits n) (by simp; omega)
  have a3 := str_add (k ++ [32] ++ digits n) [10] (by simp; omega)
  simp only [show bs [32] = ⟨#[32]⟩ from rfl, show bs [10] = ⟨#[10]⟩ from rfl] at a1 a2 a3
  generalize hs1 : bs (k ++ [32]) = s1 at a1 a2
  generalize hs2 : bs (k ++ [32] ++ digits n) = s2 at a2 a3
  generalize bs (k ++ [32] ++ digits n ++ [10]) = s3 at a3 ⊢
  clear hs1 hs2
  generalize digits n = d at *
  go_enter Try.func34, Try.ntmps34
  go_wp2_with (go_at_call 35; (with_reducible refine (HP.out _).mono ?_); rintro e w1 ⟨rfl, hB⟩; have HB := Lib.hid hB; clear hB)
  go_ret
  exact ⟨rfl, HB.out⟩
end Go.Proofs.Ytmflopeedofkhaa
