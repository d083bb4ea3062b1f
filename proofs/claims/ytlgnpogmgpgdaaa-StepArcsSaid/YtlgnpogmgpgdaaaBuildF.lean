/- palmerref16.first: what it hands back lies in the row. -/
import Derived.Test.YtlgnpogmgpgdaaaPickW
namespace Go.Proofs.Ytlgnpogmgpgdaaa
set_option linter.unusedSimpArgs false
set_option linter.unusedVariables false
set_option maxRecDepth 100000
open Go.RowKit

abbrev e64 : Nat → Value := fun x => Value.int .u64 (x : Nat)
def u64v (L : List Nat) : List Value := L.map e64
def ok64 (L : List Nat) : Prop := ∀ x ∈ L, x < 18446744073709551616
def FirstRet (n : Nat) (w : World) (e : Ending) (w' : World) : Prop := ∃ (k : Nat) (f : Bool), e = .returned (.tuple #[.int .i64 (k : Nat), .bool f]) ∧ (f = true → k < n) ∧ Below w.heap.size w w'
def firstI (n : Nat) (w : World) (i : Value) (wr : World) : Prop := ∃ k : Nat, k ≤ n ∧ i = .int .i64 (k : Nat) ∧ Below w.heap.size w wr

set_option maxHeartbeats 1600000 in
set_option maxRecDepth 100000 in
theorem first16_any (L : List Nat) (x : Nat) (b : Bool) (ao : Option Addr) (cap : Nat) (w : World) (hl : L.length ≤ 1000000) (hrd : Rd w ao L.length (u64v L)) :
    Calls Try.prog 57 #[.slice ao L.length cap, .int .u64 (x : Nat), .bool b] w (FirstRet L.length w) := by
  have Hrd := Lib.hid hrd
  clear hrd
  go_enter Try.func57, Try.ntmps57
  go_wp2_with fail
  go_loopw [11] (fun i wr => firstI L.length w i wr) (fun i _ => L.length - (intOf i).toNat)
  case atStart => exact ⟨0, by omega, rfl, Below.refl _ _⟩
  case round =>
    obtain ⟨k, hk, rfl, hB⟩ := hrel
    have HB := Lib.hid hB
    have hs := hB.size
    by_cases hlt : k < L.length
    · obtain ⟨bb, off, rfl, hbb, hc⟩ := Hrd.out.pos (by omega)
      have hc1 : wr.cell? ⟨bb, off + k, none⟩ = some (.int .u64 (L[k] : Nat)) := by
        rw [(bcell hB).1 _ _ hbb, hc k hlt]
        simp [u64v, hlt]
      have hir : (k : Int) < (L.length : Int) := by omega
      have HY := Lib.hid (show FirstRet L.length w (.returned (.tuple #[.int .i64 (k : Nat), .bool true])) wr from ⟨k, true, rfl, fun _ => hlt, hB⟩)
      clear hB hc
      generalize L[k] = q at hc1
      cases b with
      | true =>
        by_cases h : x < q
        · have hd : decide ((x : Int) < (q : Int)) = true := decide_eq_true (by omega)
          have hd' : decide (x < q) = true := decide_eq_true h
          clear h
          go_wp2_with fail
          go_ret2
          exact HY.out
        · have hd : decide ((x : Int) < (q : Int)) = false := decide_eq_false (by omega)
          have hd' : decide (x < q) = false := decide_eq_false h
          clear h
          go_wp2_with fail
          exact ⟨⟨k + 1, by omega, by go_num, HB.out⟩, by simp [intOf]; omega⟩
      | false =>
        by_cases h : q < x
        · have hd : decide ((q : Int) < (x : Int)) = true := decide_eq_true (by omega)
          have hd' : decide (q < x) = true := decide_eq_true h
          clear h
          go_wp2_with fail
          go_ret2
          exact HY.out
        · have hd : decide ((q : Int) < (x : Int)) = false := decide_eq_false (by omega)
          have hd' : decide (q < x) = false := decide_eq_false h
          clear h
          go_wp2_with fail
          exact ⟨⟨k + 1, by omega, by go_num, HB.out⟩, by simp [intOf]; omega⟩
    · obtain rfl : k = L.length := by omega
      clear hB
      go_wp2_with fail
      go_ret2
      exact ⟨0, false, rfl, (fun h => by cases h), HB.out⟩
end Go.Proofs.Ytlgnpogmgpgdaaa
