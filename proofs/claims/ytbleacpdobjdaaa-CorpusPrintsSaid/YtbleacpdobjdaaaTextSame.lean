/- Slices that are only read; the reference's Same. -/
import Derived.Test.YtbleacpdobjdaaaTextRefW
namespace Go.Proofs.Ytbleacpdobjdaaa
set_option linter.unusedSimpArgs false
set_option linter.unusedVariables false
open Go.RowKit

attribute [go_sem] bs_toList
def sameRel (a b : List (List UInt8)) (w : World) (v i : Value) (wr : World) : Prop :=
  ∃ k : Nat, k ≤ a.length ∧ i = .int .i64 k ∧ a.take k = b.take k ∧ Below w.heap.size w wr

set_option maxRecDepth 100000 in
set_option maxHeartbeats 1600000 in
theorem same_any (a b : List (List UInt8)) (ao bo : Option Addr) (ca cb : Nat) (w : World) (ha : Rd w ao a.length (strCells a)) (hb : Rd w bo b.length (strCells b))
    (hal : a.length ≤ 9223372036854775807) (hbl : b.length ≤ 9223372036854775807) :
    Calls Try.prog 16 #[.slice ao a.length ca, .slice bo b.length cb] w fun e w' => e = .returned (.bool (decide (a = b))) ∧ Below w.heap.size w w' := by
  by_cases hlen : a.length = b.length
  · have hne : ((a.length : Int) != (b.length : Int)) = false := by simp [hlen]
    have Ha := Lib.hid ha
    have Hb := Lib.hid hb
    clear ha hb
    go_enter Try.func16, Try.ntmps16
    go_wp2_with fail
    go_loopw [5, 13] (fun v i wr => sameRel a b w v i wr) (fun _ i _ => a.length - (intOf i).toNat)
    case atStart => exact ⟨0, by omega, rfl, rfl, Below.refl _ _⟩
    case round =>
      obtain ⟨k, hk, rfl, heq, hB⟩ := hrel
      by_cases hlt : k < a.length
      · obtain ⟨ba, oa, rfl, hba, hca⟩ := (Ha.out.ext hB).pos (by omega)
        obtain ⟨bb, ob, rfl, hbb, hcb⟩ := (Hb.out.ext hB).pos (by omega)
        have h1 := hca k (by omega)
        have h2 := hcb k (by omega)
        have hltb : k < b.length := by omega
        simp only [strCells, List.getElem?_map, List.getElem?_eq_getElem hlt, List.getElem?_eq_getElem hltb, Option.map_some] at h1 h2
        have htk : a.take (k + 1) = a.take k ++ [a[k]] := by rw [List.take_add_one, List.getElem?_eq_getElem hlt]; rfl
        have htkb : b.take (k + 1) = b.take k ++ [b[k]] := by rw [List.take_add_one, List.getElem?_eq_getElem hltb]; rfl
        have hfin : a[k] ≠ b[k] → a ≠ b := fun h e => h (by simp only [e])
        have hir : (k : Int) < (b.length : Int) := by omega
        have hir' : (k : Int) < (a.length : Int) := by omega
        generalize a[k] = x at *
        generalize b[k] = y at *
        have Hq := Lib.hid heq
        have HB := Lib.hid hB
        have Hf := Lib.hid hfin
        have H1 := Lib.hid htk
        have H2 := Lib.hid htkb
        clear heq hB hfin htk htkb hca hcb
        by_cases hxy : x = y
        · subst hxy
          go_wp2_with fail
          go_quiet (fail)
          go_wp2_with fail
          go_roundw
          case rel => exact ⟨k + 1, by omega, by go_num, by rw [H1.out, H2.out, Hq.out], below_drewN HB.out _⟩
          case measure => simp [intOf]; omega
        · have hbn : (!(x == y)) = true := by simp [hxy]
          go_wp2_with fail
          go_quiet (fail)
          go_wp2_with fail
          go_ret
          exact ⟨congrArg (fun x => Ending.returned (.bool x)) (decide_eq_false (Hf.out hxy)).symm, below_drewN HB.out _⟩
      · obtain rfl : k = a.length := by omega
        have hab : a = b := by
          have := heq
          rw [List.take_length, hlen, List.take_length] at this
          exact this
        have HB := Lib.hid hB
        have Hab := Lib.hid hab
        clear heq hB hab
        go_wp2_with fail
        go_ret
        exact ⟨congrArg (fun x => Ending.returned (.bool x)) (decide_eq_true Hab.out).symm, HB.out⟩
  · have hne : ((a.length : Int) != (b.length : Int)) = true := by simp; omega
    have hab : a ≠ b := fun e => hlen (by rw [e])
    have Hab := Lib.hid hab
    clear ha hb hab
    go_enter Try.func16, Try.ntmps16
    go_wp2_with fail
    go_ret
    exact ⟨congrArg (fun x => Ending.returned (.bool x)) (decide_eq_false Hab.out).symm, Below.refl _ _⟩
end Go.Proofs.Ytbleacpdobjdaaa
