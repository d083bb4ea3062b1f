/- corpus: the builder's two questions; the reference's Rec. -/
import Derived.Test.YtbleacpdobjdaaaCorpPiece
import Derived.Test.YtbleacpdobjdaaaRefOf
namespace Go.Proofs.Ytbleacpdobjdaaa
set_option linter.unusedSimpArgs false
set_option linter.unusedVariables false
open Go.RowKit

set_option maxRecDepth 100000 in
set_option maxHeartbeats 1600000 in
theorem rrec_any (a b c : Nat) (ha : a < 4294967296) (hb : b < 4294967296) (hc : c < 4294967296) (w : World) :
    Calls Try.prog 26 #[.int .u32 a, .int .u32 b, .int .u32 c] w (RetOwn 5 1 12 (byteVals (key3 a b c)) w) := by
  go_enter Try.func26, Try.ntmps26
  go_wp2_with (go_at_call 45; refine (rkey_any _ _ _ ha hb hc _).mono ?_; rintro e w1 ⟨ao, cap, g, rfl, ho, hg, hB⟩)
  go_ret
  exact ⟨ao, cap, g, rfl, ho, hg, hB⟩

def goesB (began : Bool) (bid n id step : Nat) : Bool := began && (id == bid && step == n)
def beginsB (began : Bool) (bid id step : Nat) : Bool := step == 0 && (!began || decide (bid < id))

set_option maxRecDepth 100000 in
set_option maxHeartbeats 1600000 in
theorem goes_any (began : Bool) (bid n id step B : Nat) (ao : Option Addr) (cap : Nat) (w : World) (hid : id < 4294967296) (hbid : bid < 4294967296) (hstep : step < 4294967296) (hn : n ≤ 4294967296)
    (h0 : w.cell? ⟨B, 0, none⟩ = some (.int .u32 bid)) (h1 : w.cell? ⟨B, 1, none⟩ = some (.slice ao n cap)) (h2 : w.cell? ⟨B, 2, none⟩ = some (.bool began)) :
    Calls Try.prog 50 #[.pointer (some ⟨B, 0, none⟩), .int .u32 id, .int .u32 step] w fun e w' => e = .returned (.bool (goesB began bid n id step)) ∧ w = w' := by
  unfold goesB
  cases began with
  | false =>
    go_enter Try.func50, Try.ntmps50
    go_wp2
    go_ret
    exact ⟨rfl, rfl⟩
  | true =>
    by_cases h : id = bid
    · have ht : ((id : Int) == bid) = true := by simp [h]
      have ht2 : (id == bid) = true := by simp [h]
      by_cases hs : step = n
      · have hs1 : ((step : Int) == n) = true := by simp [hs]
        have hs2 : (step == n) = true := by simp [hs]
        go_enter Try.func50, Try.ntmps50
        go_wp2
        go_ret
        exact ⟨by rw [ht2, hs2]; rfl, rfl⟩
      · have hs1 : ((step : Int) == n) = false := by simp; omega
        have hs2 : (step == n) = false := by simp [hs]
        go_enter Try.func50, Try.ntmps50
        go_wp2
        go_ret
        exact ⟨by rw [ht2, hs2]; rfl, rfl⟩
    · have ht : ((id : Int) == bid) = false := by simp; omega
      have ht2 : (id == bid) = false := by simp [h]
      go_enter Try.func50, Try.ntmps50
      go_wp2
      go_ret
      exact ⟨by rw [ht2]; rfl, rfl⟩

set_option maxRecDepth 100000 in
set_option maxHeartbeats 1600000 in
theorem begins_any (began : Bool) (bid id step B : Nat) (w : World) (hid : id < 4294967296) (hbid : bid < 4294967296) (hstep : step < 4294967296)
    (h0 : w.cell? ⟨B, 0, none⟩ = some (.int .u32 bid)) (h2 : w.cell? ⟨B, 2, none⟩ = some (.bool began)) :
    Calls Try.prog 51 #[.pointer (some ⟨B, 0, none⟩), .int .u32 id, .int .u32 step] w fun e w' => e = .returned (.bool (beginsB began bid id step)) ∧ w = w' := by
  unfold beginsB
  by_cases h : step = 0
  · have ht : ((step : Int) == 0) = true := by simp [h]
    have ht2 : (step == 0) = true := by simp [h]
    cases began with
    | false =>
      go_enter Try.func51, Try.ntmps51
      go_wp2
      go_ret
      exact ⟨by rw [ht2]; rfl, rfl⟩
    | true =>
      by_cases hs : bid < id
      · have hs1 : decide ((bid : Int) < id) = true := by simp; omega
        have hs2 : decide (bid < id) = true := by simp [hs]
        go_enter Try.func51, Try.ntmps51
        go_wp2
        go_ret
        exact ⟨by rw [ht2, hs2]; rfl, rfl⟩
      · have hs1 : decide ((bid : Int) < id) = false := by simp; omega
        have hs2 : decide (bid < id) = false := by simp [hs]
        go_enter Try.func51, Try.ntmps51
        go_wp2
        go_ret
        exact ⟨by rw [ht2, hs2]; rfl, rfl⟩
  · have ht : ((step : Int) == 0) = false := by simp; omega
    have ht2 : (step == 0) = false := by simp [h]
    go_enter Try.func51, Try.ntmps51
    go_wp2
    go_ret
    exact ⟨by rw [ht2]; rfl, rfl⟩
end Go.Proofs.Ytbleacpdobjdaaa
