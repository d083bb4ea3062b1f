/- The reference's May of rising arcs. -/
import Derived.Test.YtafbjkbdfdeacaaMergeSumsPlain
namespace Go.Proofs.Ytafbjkbdfdeacaa
set_option linter.unusedSimpArgs false
set_option linter.unusedVariables false
open Go.RowKit

def sumJ (l : List ArcD) (w : World) (s i : Value) (wr : World) : Prop := ∃ k : Nat, k ≤ l.length ∧ i = .int .i64 (k : Nat) ∧ s = .int .u64 (sumA (l.take k) : Nat) ∧ sumA (l.take k) ≤ k * 4294967296 ∧ wr = w
set_option maxRecDepth 100000 in
set_option maxHeartbeats 1600000 in
theorem rsum_still (l : List ArcD) (ao : Option Addr) (cap : Nat) (fp : Nat → Prop) (w : World) (hl : l.length ≤ 1073741824) (hrd : RdS arcRep fp w ao l) :
    Calls Try.prog 41 #[.slice ao l.length cap] w fun e w' => e = .returned (.int .u64 (sumA l : Nat)) ∧ w' = w := by
  have Hrd := Lib.hid hrd
  clear hrd
  go_enter Try.func41, Try.ntmps41
  go_wp2_with fail
  go_loopw [3, 7] (fun s i wr => sumJ l w s i wr) (fun _ i _ => l.length - (intOf i).toNat)
  case atStart => exact ⟨0, by omega, rfl, rfl, by simp [sumA], rfl⟩
  case round =>
    obtain ⟨k, hk, rfl, rfl, hsk, rfl⟩ := hrel
    by_cases hlt : k < l.length
    · obtain ⟨b, off, rfl, hb, hc0, hc1, hok⟩ := Hrd.out.arc k hlt
      have hir : (k : Int) < (l.length : Int) := by omega
      have hst := sumA_take l k hlt
      generalize l[k] = x at hc0 hc1 hok hst
      obtain ⟨x0, x1⟩ := x
      simp only at hc0 hc1 hst
      have hx1 : x1 < 4294967296 := hok.2
      generalize sumA (l.take k) = q at hst hsk ⊢
      have Hst := Lib.hid hst
      have hq : q + x1 ≤ 4611686022722355200 := by omega
      clear hst hok
      go_wp2_with fail
      have hn : sumA (l.take (k + 1)) ≤ (k + 1) * 4294967296 := by rw [Hst.out]; omega
      exact ⟨⟨k + 1, by omega, by go_num, by rw [Hst.out]; go_num, hn, rfl⟩, by simp [intOf]; omega⟩
    · obtain rfl : k = l.length := by omega
      have e : sumA (l.take l.length) = sumA l := by rw [List.take_length]
      rw [e]
      clear e
      go_wp2_with fail
      go_ret
      exact ⟨rfl, rfl⟩

def mayI (n : Nat) (w : World) (i : Value) (wr : World) : Prop := ∃ k m : Nat, k ≤ n ∧ i = .int .i64 (k : Nat) ∧ wr = w.drewN m
set_option maxRecDepth 100000 in
set_option maxHeartbeats 1600000 in
theorem rmay_any (l : List ArcD) (ao : Option Addr) (cap : Nat) (fp : Nat → Prop) (w : World) (hl : l.length ≤ 100000) (hrd : RdS arcRep fp w ao l) (hw : ∀ a ∈ l, 0 < a.2) (hp : l.Pairwise (fun a b => a.1 < b.1)) (hs : sumA l ≤ 2147483647) :
    Calls Try.prog 28 #[.slice ao l.length cap] w fun e w' => e = .returned (.bool true) ∧ ∃ m, w' = w.drewN m := by
  have Hrd := Lib.hid hrd
  have Hp := Lib.hid (List.pairwise_iff_getElem.1 hp)
  have Hw := Lib.hid hw
  have hsd : decide ((sumA l : Int) ≤ 2147483647) = true := decide_eq_true (by omega)
  have HSum := Lib.hid (fun W (h : Below w.heap.size w W) => rsum_still l ao cap fp W (by omega) (hrd.ext h))
  clear hrd hw hp
  go_enter Try.func28, Try.ntmps28
  go_wp2_with fail
  go_loopw [3, 6] (fun v i wr => mayI l.length w i wr) (fun _ i _ => l.length - (intOf i).toNat)
  case atStart => exact ⟨0, 0, by omega, rfl, rfl⟩
  case round =>
    obtain ⟨k, m, hk, rfl, rfl⟩ := hrel
    by_cases hlt : k < l.length
    · obtain ⟨bb, off, rfl, hbb, hc0, hc1, hok⟩ := Hrd.out.arc k hlt
      have hx := Hw.out l[k] (List.getElem_mem hlt)
      have hir : (k : Int) < (l.length : Int) := by omega
      cases k with
      | zero =>
        generalize l[0] = x at hc0 hc1 hok hx
        obtain ⟨x0, x1⟩ := x
        simp only at hc0 hc1 hx
        have hd1 : decide ((x1 : Int) < 1) = false := decide_eq_false (by omega)
        go_wp2_with fail
        go_quiet (fail)
        go_wp2_with fail
        go_roundw
        case rel => exact ⟨1, _, by omega, by go_num, rfl⟩
        case measure => simp [intOf]; omega
      | succ j =>
        obtain ⟨b2, o2, hab, hb2, hd0, hdd, _⟩ := Hrd.out.arc j (by omega)
        cases hab
        have hpj := Hp.out j (j + 1) (by omega) hlt (by omega)
        generalize l[j + 1] = x at hc0 hc1 hok hx hpj
        generalize l[j]'(by omega) = y at hd0 hdd hpj
        obtain ⟨x0, x1⟩ := x
        obtain ⟨y0, y1⟩ := y
        simp only at hc0 hc1 hx hd0 hdd hpj
        have hd1 : decide ((x1 : Int) < 1) = false := decide_eq_false (by omega)
        have hd2 : decide ((x0 : Int) ≤ (y0 : Int)) = false := decide_eq_false (by omega)
        have hd2' : decide (x0 ≤ y0) = false := decide_eq_false (by omega)
        have hd3 : decide ((0 : Int) < (j : Int) + 1) = true := decide_eq_true (by omega)
        have hj0 : (0 : Int) ≤ (j : Int) := by omega
        have hjl : (j : Int) < (l.length : Int) := by omega
        go_wp2_with fail
        go_quiet (fail)
        go_wp2_with fail
        go_roundw
        case rel => exact ⟨j + 1 + 1, _, by omega, by go_num, rfl⟩
        case measure => simp [intOf]; omega
    · obtain rfl : k = l.length := by omega
      go_wp2_with (go_at_call 41; refine (HSum.out _ (ext_drewN w m)).mono ?_; rintro e w2 ⟨rfl, rfl⟩)
      go_ret
      exact ⟨rfl, m, rfl⟩
end Go.Proofs.Ytafbjkbdfdeacaa
