/- palmerref16.first, exactly: the first that is above (below) a number. -/
import Derived.Test.YtcklfffeimnfeaaGreatBx15
import Derived.Test.YtcklfffeimnfeaaGreatBx08
set_option maxRecDepth 100000
set_option maxHeartbeats 12800000
set_option linter.unusedSimpArgs false
set_option linter.unusedVariables false
namespace Go.Proofs.YtcklfffeimnfeaaGreat
open Go.RowKit

def firstN (L : List Nat) (x : Nat) (b : Bool) : Option Nat := if b then highI L x else lowI L x
def firstV (r : Option Nat) : Value := match r with
  | some k => .tuple #[.int .i64 (k : Nat), .bool true]
  | none => .tuple #[.int .i64 0, .bool false]
def hitN (x : Nat) (b : Bool) (q : Nat) : Bool := if b then decide (x < q) else decide (q < x)
theorem firstN_eq (L : List Nat) (x : Nat) (b : Bool) : firstN L x b = L.findIdx? (hitN x b) := by
  cases b <;> rfl
theorem firstN_at {L : List Nat} {x : Nat} {b : Bool} {k : Nat} (hk : k < L.length) (h1 : hitN x b L[k] = true) (h2 : ∀ i (hi : i < k), hitN x b (L[i]'(by omega)) = false) : firstN L x b = some k := by
  rw [firstN_eq, List.findIdx?_eq_some_iff_getElem]
  exact ⟨hk, h1, fun i hi => by simp [h2 i hi]⟩
theorem firstN_no {L : List Nat} {x : Nat} {b : Bool} (h : ∀ i (hi : i < L.length), hitN x b L[i] = false) : firstN L x b = none := by
  rw [firstN_eq, List.findIdx?_eq_none_iff]
  intro q hq
  obtain ⟨i, hi, rfl⟩ := List.mem_iff_getElem.1 hq
  exact h i hi
def firstJ (L : List Nat) (x : Nat) (b : Bool) (w : World) (i : Value) (wr : World) : Prop := ∃ k : Nat, k ≤ L.length ∧ i = .int .i64 (k : Nat) ∧ (∀ q (hq : q < L.length), q < k → hitN x b L[q] = false) ∧ Below w.heap.size w wr
theorem first16x_any (L : List Nat) (x : Nat) (b : Bool) (ao : Option Addr) (cap : Nat) (w : World) (hl : L.length ≤ 1000000) (hrd : Rd w ao L.length (u64v L)) :
    Calls Tryz.prog 57 #[.slice ao L.length cap, .int .u64 (x : Nat), .bool b] w (RetB (firstV (firstN L x b)) w) := by
  have Hrd := Lib.hid hrd
  clear hrd
  go_enter Tryz.func57, Tryz.ntmps57
  go_wp2_with fail
  go_loopw [11] (fun i wr => firstJ L x b w i wr) (fun i _ => L.length - (intOf i).toNat)
  case atStart => exact ⟨0, by omega, rfl, fun q _ h => by omega, Below.refl _ _⟩
  case round =>
    obtain ⟨k, hk, rfl, hno, hB⟩ := hrel
    have HB := Lib.hid hB
    have hs := hB.size
    by_cases hlt : k < L.length
    · obtain ⟨bb, off, rfl, hbb, hc⟩ := Hrd.out.pos (by omega)
      have hc1 : wr.cell? ⟨bb, off + k, none⟩ = some (.int .u64 (L[k] : Nat)) := by
        rw [(bcell hB).1 _ _ hbb, hc k hlt]
        simp [u64v, hlt]
      have hir : (k : Int) < (L.length : Int) := by omega
      have HY := Lib.hid (fun (h : hitN x b L[k] = true) => (show RetB (firstV (firstN L x b)) w (.returned (.tuple #[.int .i64 (k : Nat), .bool true])) wr from ⟨by rw [firstN_at hlt h (fun i hi => hno i (by omega) hi)]; rfl, hB⟩))
      have HN := Lib.hid (fun (h : hitN x b L[k] = false) => (show ∀ q (hq : q < L.length), q < k + 1 → hitN x b L[q] = false from fun q hq h2 => by
        by_cases e : q = k
        · subst e; exact h
        · exact hno q hq (by omega)))
      clear hB hc hno
      obtain ⟨q, hq⟩ : ∃ q, L[k] = q := ⟨_, rfl⟩
      rw [hq] at hc1 HY HN
      clear hq
      cases b with
      | true =>
        by_cases h : x < q
        · have hd : decide ((x : Int) < (q : Int)) = true := decide_eq_true (by omega)
          have hd' : decide (x < q) = true := decide_eq_true h
          have hy := Lib.hid (HY.out (decide_eq_true h))
          clear h
          go_wp2_with fail
          go_ret2
          exact hy.out
        · have hd : decide ((x : Int) < (q : Int)) = false := decide_eq_false (by omega)
          have hd' : decide (x < q) = false := decide_eq_false h
          have hn := Lib.hid (HN.out (decide_eq_false h))
          clear h
          go_wp2_with fail
          exact ⟨⟨k + 1, by omega, by go_num, hn.out, HB.out⟩, by simp [intOf]; omega⟩
      | false =>
        by_cases h : q < x
        · have hd : decide ((q : Int) < (x : Int)) = true := decide_eq_true (by omega)
          have hd' : decide (q < x) = true := decide_eq_true h
          have hy := Lib.hid (HY.out (decide_eq_true h))
          clear h
          go_wp2_with fail
          go_ret2
          exact hy.out
        · have hd : decide ((q : Int) < (x : Int)) = false := decide_eq_false (by omega)
          have hd' : decide (q < x) = false := decide_eq_false h
          have hn := Lib.hid (HN.out (decide_eq_false h))
          clear h
          go_wp2_with fail
          exact ⟨⟨k + 1, by omega, by go_num, hn.out, HB.out⟩, by simp [intOf]; omega⟩
    · obtain rfl : k = L.length := by omega
      have hn := Lib.hid (firstN_no (L := L) (x := x) (b := b) (fun i hi => hno i hi hi))
      clear hB hno
      go_wp2_with fail
      go_ret2
      exact ⟨by rw [hn.out]; rfl, HB.out⟩
end Go.Proofs.YtcklfffeimnfeaaGreat
