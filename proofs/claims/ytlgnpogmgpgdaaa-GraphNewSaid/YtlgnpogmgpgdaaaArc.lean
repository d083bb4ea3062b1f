/- Arcs, their sums, which may be neighbours. -/
import Derived.Test.YtlgnpogmgpgdaaaRep
import Derived.Test.YtlgnpogmgpgdaaaChecked
namespace Go.Proofs.Ytlgnpogmgpgdaaa
set_option linter.unusedSimpArgs false
set_option linter.unusedVariables false
set_option maxRecDepth 100000
open Go.RowKit

abbrev ArcD := Nat × Nat
def arcRep : Rep ArcD := Rep.prod Rep.u32 Rep.u32
def arcCs (x : ArcD) : List Value := [.int .u32 (x.1 : Nat), .int .u32 (x.2 : Nat)]
def okA (x : ArcD) : Prop := x.1 < 4294967296 ∧ x.2 < 4294967296
theorem arcRep_ok {W : World} {fp : Nat → Prop} {x : ArcD} (h : okA x) : arcRep.ok W fp x (arcCs x) := ⟨[_], [_], rfl, ⟨rfl, h.1⟩, ⟨rfl, h.2⟩⟩
theorem arcElem : Elem Try.prog 31 42 2 8 (.agg #[.int .u32 0, .int .u32 0]) := Elem.mk' Try.underlying31 (by kernel_rfl) rfl (by decide)
theorem RdS.arc {fp : Nat → Prop} {w : World} {ao : Option Addr} {l : List ArcD} (h : RdS arcRep fp w ao l) (k : Nat) (hk : k < l.length) :
    ∃ b off, ao = some ⟨b, off, none⟩ ∧ b < w.heap.size ∧ w.cell? ⟨b, off + k * 2, none⟩ = some (.int .u32 (l[k].1 : Nat)) ∧ w.cell? ⟨b, off + k * 2 + 1, none⟩ = some (.int .u32 (l[k].2 : Nat)) ∧ okA l[k] := by
  obtain ⟨b, off, cs, rfl, _, hb, ⟨c, d, rfl, ⟨rfl, h1⟩, ⟨rfl, h2⟩⟩, hc⟩ := h.at k hk
  exact ⟨b, off, rfl, hb, hc 0 (by decide), hc 1 (by decide), h1, h2⟩
def sumA (l : List ArcD) : Nat := (l.map (·.2)).sum
theorem sumA_take (l : List ArcD) (k : Nat) (h : k < l.length) : sumA (l.take (k + 1)) = sumA (l.take k) + l[k].2 := by
  unfold sumA
  rw [List.take_succ_eq_append_getElem h, List.map_append, List.sum_append]
  simp only [List.map_cons, List.map_nil, List.sum_cons, List.sum_nil, Nat.add_zero]
def sumI (l : List ArcD) (w : World) (s i : Value) (wr : World) : Prop := ∃ k : Nat, k ≤ l.length ∧ i = .int .i64 (k : Nat) ∧ s = .int .u64 (sumA (l.take k) : Nat) ∧ sumA (l.take k) ≤ k * 4294967296 ∧ Below w.heap.size w wr

set_option maxRecDepth 100000 in
set_option maxHeartbeats 1600000 in
theorem gsum_any (l : List ArcD) (ao : Option Addr) (cap : Nat) (fp : Nat → Prop) (w : World) (hl : l.length ≤ 1073741824) (hrd : RdS arcRep fp w ao l) :
    Calls Try.prog 77 #[.slice ao l.length cap] w fun e w' => e = .returned (.int .u64 (sumA l : Nat)) ∧ Below w.heap.size w w' := by
  have Hrd := Lib.hid hrd
  clear hrd
  go_enter Try.func77, Try.ntmps77
  go_wp2_with fail
  go_loopw [3, 8] (fun s i wr => sumI l w s i wr) (fun _ i _ => l.length - (intOf i).toNat)
  case atStart => exact ⟨0, by omega, rfl, rfl, by simp [sumA], Below.refl _ _⟩
  case round =>
    obtain ⟨k, hk, rfl, rfl, hsk, hB⟩ := hrel
    have HB := Lib.hid hB
    have hs := hB.size
    by_cases hlt : k < l.length
    · obtain ⟨b, off, rfl, hb, hc0', hc1', hok⟩ := Hrd.out.arc k hlt
      have hc0 := ((bcell hB).1 _ _ hb).trans hc0'
      have hc1 := ((bcell hB).1 _ _ hb).trans hc1'
      have hir : (k : Int) < (l.length : Int) := by omega
      have hst := sumA_take l k hlt
      clear hc0' hc1' hB
      generalize l[k] = x at hc0 hc1 hok hst
      obtain ⟨x0, x1⟩ := x
      simp only at hc0 hc1 hst
      have hx1 : x1 < 4294967296 := hok.2
      generalize sumA (l.take k) = q at hst hsk ⊢
      have Hst := Lib.hid hst
      have hq : q + x1 ≤ 4611686022722355200 := by omega
      clear hst hok
      go_wp2_with fail
      have hn : sumA (l.take (k + 1)) ≤ (k + 1) * 4294967296 := by rw [Hst.out]; omega
      exact ⟨⟨k + 1, by omega, by go_num, by rw [Hst.out]; go_num, hn, by first | exact HB.out | exact HB.out.alloc hs _⟩, by simp [intOf]; omega⟩
    · obtain rfl : k = l.length := by omega
      have e : sumA (l.take l.length) = sumA l := by rw [List.take_length]
      rw [e]
      clear e hB
      go_wp2_with fail
      go_ret
      exact ⟨rfl, HB.out⟩

set_option maxRecDepth 100000 in
set_option maxHeartbeats 1600000 in
theorem rsum_any (l : List ArcD) (ao : Option Addr) (cap : Nat) (fp : Nat → Prop) (w : World) (hl : l.length ≤ 1073741824) (hrd : RdS arcRep fp w ao l) :
    Calls Try.prog 56 #[.slice ao l.length cap] w fun e w' => e = .returned (.int .u64 (sumA l : Nat)) ∧ Below w.heap.size w w' := by
  have Hrd := Lib.hid hrd
  clear hrd
  go_enter Try.func56, Try.ntmps56
  go_wp2_with fail
  go_loopw [3, 7] (fun s i wr => sumI l w s i wr) (fun _ i _ => l.length - (intOf i).toNat)
  case atStart => exact ⟨0, by omega, rfl, rfl, by simp [sumA], Below.refl _ _⟩
  case round =>
    obtain ⟨k, hk, rfl, rfl, hsk, hB⟩ := hrel
    have HB := Lib.hid hB
    have hs := hB.size
    by_cases hlt : k < l.length
    · obtain ⟨b, off, rfl, hb, hc0', hc1', hok⟩ := Hrd.out.arc k hlt
      have hc0 := ((bcell hB).1 _ _ hb).trans hc0'
      have hc1 := ((bcell hB).1 _ _ hb).trans hc1'
      have hir : (k : Int) < (l.length : Int) := by omega
      have hst := sumA_take l k hlt
      clear hc0' hc1' hB
      generalize l[k] = x at hc0 hc1 hok hst
      obtain ⟨x0, x1⟩ := x
      simp only at hc0 hc1 hst
      have hx1 : x1 < 4294967296 := hok.2
      generalize sumA (l.take k) = q at hst hsk ⊢
      have Hst := Lib.hid hst
      have hq : q + x1 ≤ 4611686022722355200 := by omega
      clear hst hok
      go_wp2_with fail
      have hn : sumA (l.take (k + 1)) ≤ (k + 1) * 4294967296 := by rw [Hst.out]; omega
      exact ⟨⟨k + 1, by omega, by go_num, by rw [Hst.out]; go_num, hn, by first | exact HB.out | exact HB.out.alloc hs _⟩, by simp [intOf]; omega⟩
    · obtain rfl : k = l.length := by omega
      have e : sumA (l.take l.length) = sumA l := by rw [List.take_length]
      rw [e]
      clear e hB
      go_wp2_with fail
      go_ret
      exact ⟨rfl, HB.out⟩

end Go.Proofs.Ytlgnpogmgpgdaaa
