/- The reference's Same of numbers, of paths: where both read as one list. -/
import Derived.Test.YtbleacpdobjdaaaRefPaths
namespace Go.Proofs.Ytbleacpdobjdaaa
set_option linter.unusedSimpArgs false
set_option linter.unusedVariables false
open Go.RowKit

theorem RdS.cellU32 {fp : Nat → Prop} {w : World} {ao : Option Addr} {l : List Nat} (h : RdS Rep.u32 fp w ao l) (k : Nat) (hk : k < l.length) : ∃ b off, ao = some ⟨b, off, none⟩ ∧ b < w.heap.size ∧ w.cell? ⟨b, off + k, none⟩ = some (.int .u32 (l[k] : Nat)) ∧ l[k] < 4294967296 := by
  obtain ⟨b, off, cs, rfl, _, hb, ⟨rfl, hlt⟩, hc⟩ := h.at k hk
  have h0 := hc 0 Nat.one_pos
  simp only [Rep.nat, Nat.mul_one, Nat.add_zero, List.getElem?_cons_zero] at h0
  exact ⟨b, off, rfl, hb, h0, hlt⟩
def sameQ (n : Nat) (w : World) (i : Value) (wr : World) : Prop := ∃ k m : Nat, k ≤ n ∧ i = .int .i64 (k : Nat) ∧ wr = w.drewN m

set_option maxRecDepth 100000 in
set_option maxHeartbeats 1600000 in
theorem same15_any (l : List Nat) (ao bo : Option Addr) (ca cb : Nat) (fa fb : Nat → Prop) (w : World) (hl : l.length ≤ 1073741824) (ha : RdS Rep.u32 fa w ao l) (hb : RdS Rep.u32 fb w bo l) :
    Calls Try.prog 47 #[.slice ao l.length ca, .slice bo l.length cb] w fun e w' => e = .returned (.bool true) ∧ ∃ m, w' = w.drewN m := by
  have hne : ((l.length : Int) != (l.length : Int)) = false := by simp
  have Ha := Lib.hid ha
  have Hb := Lib.hid hb
  clear ha hb
  go_enter Try.func47, Try.ntmps47
  go_wp2_with fail
  go_loopw [5, 13] (fun v i wr => sameQ l.length w i wr) (fun _ i _ => l.length - (intOf i).toNat)
  case atStart => exact ⟨0, 0, by omega, rfl, rfl⟩
  case round =>
    obtain ⟨k, m, hk, rfl, rfl⟩ := hrel
    by_cases hlt : k < l.length
    · obtain ⟨ba, oa, rfl, hba, hca, hv⟩ := Ha.out.cellU32 k hlt
      obtain ⟨bb, ob, rfl, hbb, hcb, _⟩ := Hb.out.cellU32 k hlt
      have hir : (k : Int) < (l.length : Int) := by omega
      generalize l[k] = x at hca hcb hv
      have hx : ((x : Int) != x) = false := by simp
      go_wp2_with fail
      go_quiet (fail)
      go_wp2_with fail
      go_roundw
      case rel => exact ⟨k + 1, _, by omega, by go_num, rfl⟩
      case measure => simp [intOf]; omega
    · obtain rfl : k = l.length := by omega
      go_wp2_with fail
      go_ret
      exact ⟨rfl, _, rfl⟩

def same28I (n : Nat) (w : World) (i : Value) (wr : World) : Prop := ∃ k : Nat, k ≤ n ∧ i = .int .i64 (k : Nat) ∧ Below w.heap.size w wr
theorem RdS.path {fp : Nat → Prop} {w : World} {ao : Option Addr} {l : List PathD} (h : RdS pathRep fp w ao l) (k : Nat) (hk : k < l.length) :
    ∃ b off ap cp, ao = some ⟨b, off, none⟩ ∧ b < w.heap.size ∧ w.cell? ⟨b, off + k * 2, none⟩ = some (.int .u32 (l[k].1 : Nat)) ∧ w.cell? ⟨b, off + k * 2 + 1, none⟩ = some (.slice ap l[k].2.length cp) ∧ RdS Rep.u32 fp w ap l[k].2 ∧ l[k].1 < 4294967296 ∧ l[k].2.length ≤ cp := by
  obtain ⟨b, off, cs, rfl, _, hb, ⟨c, d, rfl, ⟨rfl, hlt⟩, ap, cp, rfl, h1, h2, h3⟩, hc⟩ := h.at k hk
  exact ⟨b, off, ap, cp, rfl, hb, hc 0 (by decide), hc 1 (by decide), h3, hlt, h1⟩

set_option maxRecDepth 100000 in
set_option maxHeartbeats 1600000 in
theorem same28_any (l : List PathD) (ao bo : Option Addr) (ca cb : Nat) (fa fb : Nat → Prop) (w : World) (hl : l.length ≤ 1073741824) (hall : ∀ p ∈ l, p.2.length ≤ 1073741824) (ha : RdS pathRep fa w ao l) (hb : RdS pathRep fb w bo l) :
    Calls Try.prog 30 #[.slice ao l.length ca, .slice bo l.length cb] w fun e w' => e = .returned (.bool true) ∧ Below w.heap.size w w' := by
  have hne : ((l.length : Int) != (l.length : Int)) = false := by simp
  have Ha := Lib.hid ha
  have Hb := Lib.hid hb
  have Hall := Lib.hid hall
  clear ha hb hall
  go_enter Try.func30, Try.ntmps30
  go_wp2_with fail
  go_loopw [5, 13] (fun v i wr => same28I l.length w i wr) (fun _ i _ => l.length - (intOf i).toNat)
  case atStart => exact ⟨0, by omega, rfl, Below.refl _ _⟩
  case round =>
    obtain ⟨k, hk, rfl, hB⟩ := hrel
    have HB := Lib.hid hB
    by_cases hlt : k < l.length
    · obtain ⟨ba, oa, pa, cpa, rfl, hba, hca, hca1, hra, hv, _⟩ := (Ha.out.ext hB).path k hlt
      obtain ⟨bb, ob, pb, cpb, rfl, hbb, hcb, hcb1, hrb, _, _⟩ := (Hb.out.ext hB).path k hlt
      have hir : (k : Int) < (l.length : Int) := by omega
      have hpl := Hall.out l[k] (List.getElem_mem hlt)
      generalize l[k] = p at hca hcb hv hca1 hcb1 hra hrb hpl
      have hx : ((p.1 : Int) != p.1) = false := by simp
      have Hra := Lib.hid hra
      have Hrb := Lib.hid hrb
      clear hra hrb hB
      go_wp2_with fail
      go_quiet ((go_at_call 47; exact Calls.quiet_of (same15_any p.2 pa pb cpa cpb fa fb _ hpl (Hra.out.ext (ext_drewN _ _)) (Hrb.out.ext (ext_drewN _ _)))))
      go_wp2_with fail
      go_roundw
      case rel => exact ⟨k + 1, by omega, by go_num, below_drewN HB.out _⟩
      case measure => simp [intOf]; omega
    · obtain rfl : k = l.length := by omega
      clear hB
      go_wp2_with fail
      go_ret
      exact ⟨rfl, HB.out⟩
end Go.Proofs.Ytbleacpdobjdaaa
