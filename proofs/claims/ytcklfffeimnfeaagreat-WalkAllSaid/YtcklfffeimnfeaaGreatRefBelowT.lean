/- How many draws below one come to a neighbour, cell by cell. No program in sight. -/
import Derived.Test.YtcklfffeimnfeaaGreatBx08
set_option maxRecDepth 100000
set_option maxHeartbeats 12800000
set_option linter.unusedSimpArgs false
set_option linter.unusedVariables false
namespace Go.Proofs.YtcklfffeimnfeaaGreat

/-- what one cell adds -/
def belowC (w tv x k : Nat) (c : Nat × Nat) : Nat := (if k = tv then min (min (x - k * w) w) c.1 else 0) + (if c.2 = tv then min (x - k * w) w - c.1 else 0)
theorem belowT_go {w tv x k : Nat} {T : List (Nat × Nat)} (hk : k < T.length) (h : ¬ x ≤ k * w) : belowT w tv x k (T.drop k) = belowC w tv x k T[k] + belowT w tv x (k + 1) (T.drop (k + 1)) := by
  rw [List.drop_eq_getElem_cons hk, belowT, if_neg h]
  rfl
theorem belowT_stop {w tv x k : Nat} {T : List (Nat × Nat)} (h : x ≤ k * w) : belowT w tv x k (T.drop k) = 0 := below_zero w tv x k _ h
theorem belowT_end {w tv x : Nat} {T : List (Nat × Nat)} : belowT w tv x T.length (T.drop T.length) = 0 := by rw [List.drop_length]; rfl
theorem remap_bd {W : List Nat} {T : List (Nat × Nat)} {x : Nat} (hT : RightT W T) (hx : x < W.length * W.sum) : remapT W T x < W.length * W.sum := by
  have h := (remap_go hT hx).2
  have h2 := frontT_le W (show toT T W.sum x + 1 ≤ W.length from toT_lt hT hx)
  rw [frontT_all] at h2
  omega
end Go.Proofs.YtcklfffeimnfeaaGreat
