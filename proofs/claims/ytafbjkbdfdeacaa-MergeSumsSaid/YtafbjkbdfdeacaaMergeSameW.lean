/- The reference's Same of arcs, of rows: where both read as one list. -/
import Derived.Test.YtafbjkbdfdeacaaMergeRef2
namespace Go.Proofs.Ytafbjkbdfdeacaa
set_option linter.unusedSimpArgs false
set_option linter.unusedVariables false
open Go.RowKit

def sameQ (n : Nat) (w : World) (i : Value) (wr : World) : Prop := ∃ k m : Nat, k ≤ n ∧ i = .int .i64 (k : Nat) ∧ wr = w.drewN m

set_option maxRecDepth 100000 in
set_option maxHeartbeats 1600000 in
theorem same04_any (l : List ArcD) (ao bo : Option Addr) (ca cb : Nat) (fa fb : Nat → Prop) (w : World) (hl : l.length ≤ 1073741824) (ha : RdS arcRep fa w ao l) (hb : RdS arcRep fb w bo l) :
    Calls Try.prog 43 #[.slice ao l.length ca, .slice bo l.length cb] w fun e w' => e = .returned (.bool true) ∧ ∃ m, w' = w.drewN m := by
  have hne : ((l.length : Int) != (l.length : Int)) = false := by simp
  have Ha := Lib.hid ha
  have Hb := Lib.hid hb
  clear ha hb
  go_enter Try.func43, Try.ntmps43
  go_wp2_with fail
  go_loopw [5, 13] (fun v i wr => sameQ l.length w i wr) (fun _ i _ => l.length - (intOf i).toNat)
  case atStart => exact ⟨0, 0, by omega, rfl, rfl⟩
  case round =>
    obtain ⟨k, m, hk, rfl, rfl⟩ := hrel
    by_cases hlt : k < l.length
    · obtain ⟨ba, oa, rfl, hba, hca, hca1, hv⟩ := Ha.out.arc k hlt
      obtain ⟨bb, ob, rfl, hbb, hcb, hcb1, _⟩ := Hb.out.arc k hlt
      have hir : (k : Int) < (l.length : Int) := by omega
      generalize l[k] = x at hca hca1 hcb hcb1 hv
      obtain ⟨x0, x1⟩ := x
      simp only at hca hca1 hcb hcb1
      have hx : ((x0 : Int) != x0) = false := by simp
      have hy : ((x1 : Int) != x1) = false := by simp
      go_wp2_with fail
      go_quiet (fail)
      go_wp2_with fail
      go_roundw
      case rel => exact ⟨k + 1, _, by omega, by go_num, rfl⟩
      case measure => simp [intOf]; omega
    · obtain rfl : k = l.length := by omega
      go_wp2_with fail
      go_ret
      exact ⟨rfl, _, rfl⟩

def same14I (n : Nat) (w : World) (i : Value) (wr : World) : Prop := ∃ k : Nat, k ≤ n ∧ i = .int .i64 (k : Nat) ∧ Below w.heap.size w wr

set_option maxRecDepth 100000 in
set_option maxHeartbeats 1600000 in
theorem same14_any (l : List RowD) (ao bo : Option Addr) (ca cb : Nat) (fa fb : Nat → Prop) (w : World) (hl : l.length ≤ 1073741824) (hall : ∀ p ∈ l, p.2.length ≤ 1073741824) (ha : RdS rowRep fa w ao l) (hb : RdS rowRep fb w bo l) :
    Calls Try.prog 22 #[.slice ao l.length ca, .slice bo l.length cb] w fun e w' => e = .returned (.bool true) ∧ Below w.heap.size w w' := by
  have hne : ((l.length : Int) != (l.length : Int)) = false := by simp
  have Ha := Lib.hid ha
  have Hb := Lib.hid hb
  have Hall := Lib.hid hall
  clear ha hb hall
  go_enter Try.func22, Try.ntmps22
  go_wp2_with fail
  go_loopw [5, 13] (fun v i wr => same14I l.length w i wr) (fun _ i _ => l.length - (intOf i).toNat)
  case atStart => exact ⟨0, by omega, rfl, Below.refl _ _⟩
  case round =>
    obtain ⟨k, hk, rfl, hB⟩ := hrel
    have HB := Lib.hid hB
    by_cases hlt : k < l.length
    · obtain ⟨ba, oa, pa, cpa, rfl, hba, hca, hca1, hv, _, _, hra⟩ := (Ha.out.ext hB).row k hlt
      obtain ⟨bb, ob, pb, cpb, rfl, hbb, hcb, hcb1, _, _, _, hrb⟩ := (Hb.out.ext hB).row k hlt
      have hir : (k : Int) < (l.length : Int) := by omega
      have hpl := Hall.out l[k] (List.getElem_mem hlt)
      generalize l[k] = p at hca hcb hv hca1 hcb1 hra hrb hpl
      have hx : ((p.1 : Int) != p.1) = false := by simp
      have Hra := Lib.hid hra
      have Hrb := Lib.hid hrb
      clear hra hrb hB
      go_wp2_with fail
      go_quiet ((go_at_call 43; exact Calls.quiet_of (same04_any p.2 pa pb cpa cpb fa fb _ hpl (Hra.out.ext (ext_drewN _ _)) (Hrb.out.ext (ext_drewN _ _)))))
      go_wp2_with fail
      go_roundw
      case rel => exact ⟨k + 1, by omega, by go_num, below_drewN HB.out _⟩
      case measure => simp [intOf]; omega
    · obtain rfl : k = l.length := by omega
      clear hB
      go_wp2_with fail
      go_ret
      exact ⟨rfl, HB.out⟩
end Go.Proofs.Ytafbjkbdfdeacaa
