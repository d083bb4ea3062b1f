/- gaps.May and the reference's: which arcs are neighbours. -/
import Derived.Test.YtlgnpogmgpgdaaaStepPlain
namespace Go.Proofs.Ytlgnpogmgpgdaaa
set_option linter.unusedSimpArgs false
set_option linter.unusedVariables false
set_option maxRecDepth 100000
open Go.RowKit

theorem badA_zero (l : List ArcD) (h : 0 < l.length) : badA l 0 ↔ l[0].2 = 0 :=
  ⟨fun ⟨_, h⟩ => by rcases h with h | ⟨h, _⟩; exact h; omega, fun e => ⟨h, .inl e⟩⟩
theorem badA_succ (l : List ArcD) (j : Nat) (h : j + 1 < l.length) : badA l (j + 1) ↔ (l[j + 1].2 = 0 ∨ l[j + 1].1 ≤ (l[j]'(by omega)).1) :=
  ⟨fun ⟨_, h⟩ => by
    rcases h with h | ⟨_, h⟩
    · exact .inl h
    · exact .inr h, fun e => ⟨h, by
    rcases e with e | e
    · exact .inl e
    · exact .inr ⟨by omega, e⟩⟩⟩
def amayI (l : List ArcD) (w : World) (i : Value) (wr : World) : Prop := ∃ k : Nat, k ≤ l.length ∧ i = .int .i64 (k : Nat) ∧ (∀ j, j < k → ¬ badA l j) ∧ Below w.heap.size w wr
theorem all_next {l : List ArcD} {k : Nat} (h : ∀ j, j < k → ¬ badA l j) (hk : ¬ badA l k) : ∀ j, j < k + 1 → ¬ badA l j := fun j hj hb => by
  by_cases e : j < k
  · exact h j e hb
  · obtain rfl : j = k := by omega
    exact hk hb
set_option maxRecDepth 100000 in
set_option maxHeartbeats 3200000 in
theorem rmay04_any (l : List ArcD) (ao : Option Addr) (cap : Nat) (fp : Nat → Prop) (w : World) (hl : l.length ≤ 100000) (hrd : RdS arcRep fp w ao l) :
    Calls Try.prog 16 #[.slice ao l.length cap] w (RetB (.bool (mayA l)) w) := by
  have HSum := Lib.hid (fun W (h : Below w.heap.size w W) => rsum_any l ao cap fp W (by omega) (hrd.ext h))
  have Hrd := Lib.hid hrd
  clear hrd
  go_enter Try.func16, Try.ntmps16
  go_wp2_with fail
  go_loopw [6] (fun i wr => amayI l w i wr) (fun i _ => l.length - (intOf i).toNat)
  case atStart => exact ⟨0, by omega, rfl, fun j h => by omega, Below.refl _ _⟩
  case round =>
    obtain ⟨k, hk, rfl, hall, hB⟩ := hrel
    obtain ⟨wo, rfl⟩ : ∃ wo : World, wo = wr := ⟨_, rfl⟩
    by_cases hlt : k < l.length
    · obtain ⟨bb, off, rfl, hbb, hc0', hc1', hok⟩ := Hrd.out.arc k hlt
      have hc0 := ((bcell hB).1 _ _ hbb).trans hc0'
      have hc1 := ((bcell hB).1 _ _ hbb).trans hc1'
      have hbs := hB.size
      have HB := Lib.hid hB
      have hir : (k : Int) < (l.length : Int) := by omega
      clear hc0' hc1' hB
      cases k with
      | zero =>
        have hbad := badA_zero l hlt
        simp only [Nat.zero_mul, Nat.add_zero] at hc0 hc1
        generalize l[0] = x at hc0 hc1 hok hbad
        obtain ⟨x0, x1⟩ := x
        simp only at hc0 hc1 hbad
        have hj0 : (0 : Int) < (l.length : Int) := hir
        have hj0' : 0 < l.length := by omega
        by_cases hz : x1 = 0
        · have d1 : decide ((x1 : Int) < 1) = true := decide_eq_true (by omega)
          have d1' : decide (x1 < 1) = true := decide_eq_true (by omega)
          have d2 : ((x1 : Int) == 0) = true := by rw [hz]; rfl
          have d2' : (x1 == 0) = true := by rw [hz]; rfl
          have hv := hbad.2 hz
          clear hz hbad
          have Hv := Lib.hid (mayA_bad hv)
          clear hall
          go_wp2_with fail
          go_quiet (fail)
          go_wp2_with fail
          go_ret
          exact ⟨by rw [Hv.out]; rfl, by first | exact HB.out.trans ((ext_drewN _ _).mono HB.out.size) | exact below_drewN (HB.out.alloc HB.out.size _) _⟩
        · have d1 : decide ((x1 : Int) < 1) = false := decide_eq_false (by omega)
          have d1' : decide (x1 < 1) = false := decide_eq_false (by omega)
          have d2 : ((x1 : Int) == 0) = false := beq_eq_false_iff_ne.2 (by omega)
          have d2' : (x1 == 0) = false := beq_eq_false_iff_ne.2 hz
          have hv := fun h => hz (hbad.1 h)
          clear hz hbad
          have Hg := Lib.hid (all_next hall hv)
          clear hall
          go_wp2_with fail
          go_quiet (fail)
          go_wp2_with fail
          go_roundw
          case rel => exact ⟨0 + 1, by omega, by go_num, Hg.out, by first | exact HB.out.trans ((ext_drewN _ _).mono HB.out.size) | exact below_drewN (HB.out.alloc HB.out.size _) _⟩
          case measure => simp [intOf]; omega
      | succ j =>
        obtain ⟨b2, o2, hab, hb2, hd0', _, _⟩ := Hrd.out.arc j (by omega)
        cases hab
        have hd0 := ((bcell HB.out).1 _ _ hbb).trans hd0'
        clear hd0'
        have hbad := badA_succ l j hlt
        generalize l[j + 1] = x at hc0 hc1 hok hbad
        generalize l[j]'(by omega) = y at hd0 hbad
        obtain ⟨x0, x1⟩ := x
        obtain ⟨y0, y1⟩ := y
        simp only at hc0 hc1 hd0 hbad
        have hd3 : decide ((0 : Int) < (j : Int) + 1) = true := decide_eq_true (by omega)
        have hj0 : (0 : Int) ≤ (j : Int) := by omega
        have hjl : (j : Int) < (l.length : Int) := by omega
        have hjw : IntKind.i64.wrap ((j : Int) + 1 - 1) = (j : Int) := by rw [Int.add_sub_cancel]; exact IntWalk.i64_in _ (by omega)
        by_cases hz : x1 = 0
        · have d1 : decide ((x1 : Int) < 1) = true := decide_eq_true (by omega)
          have d1' : decide (x1 < 1) = true := decide_eq_true (by omega)
          have d2 : ((x1 : Int) == 0) = true := by rw [hz]; rfl
          have d2' : (x1 == 0) = true := by rw [hz]; rfl
          have hv := hbad.2 (.inl hz)
          clear hz hbad hjw
          have Hv := Lib.hid (mayA_bad hv)
          clear hall
          go_wp2_with fail
          go_quiet (fail)
          go_wp2_with fail
          go_ret
          exact ⟨by rw [Hv.out]; rfl, by first | exact HB.out.trans ((ext_drewN _ _).mono HB.out.size) | exact below_drewN (HB.out.alloc HB.out.size _) _⟩
        have d1 : decide ((x1 : Int) < 1) = false := decide_eq_false (by omega)
        have d1' : decide (x1 < 1) = false := decide_eq_false (by omega)
        have d2 : ((x1 : Int) == 0) = false := beq_eq_false_iff_ne.2 (by omega)
        have d2' : (x1 == 0) = false := beq_eq_false_iff_ne.2 hz
        by_cases hxy : x0 ≤ y0
        · have e1 : decide ((x0 : Int) ≤ (y0 : Int)) = true := decide_eq_true (by omega)
          have e1' : decide (x0 ≤ y0) = true := decide_eq_true hxy
          have hv := hbad.2 (.inr hxy)
          clear hz hbad hxy
          have Hv := Lib.hid (mayA_bad hv)
          clear hall
          go_wp2_with fail
          go_quiet (fail)
          go_wp2_with fail
          go_ret
          exact ⟨by rw [Hv.out]; rfl, by first | exact HB.out.trans ((ext_drewN _ _).mono HB.out.size) | exact below_drewN (HB.out.alloc HB.out.size _) _⟩
        · have e1 : decide ((x0 : Int) ≤ (y0 : Int)) = false := decide_eq_false (by omega)
          have e1' : decide (x0 ≤ y0) = false := decide_eq_false hxy
          have hv : ¬ badA l (j + 1) := fun h => by rcases hbad.1 h with h | h <;> omega
          clear hz hbad hxy
          have Hg := Lib.hid (all_next hall hv)
          clear hall
          go_wp2_with fail
          go_quiet (fail)
          go_wp2_with fail
          go_roundw
          case rel => exact ⟨j + 1 + 1, by omega, by go_num, Hg.out, by first | exact HB.out.trans ((ext_drewN _ _).mono HB.out.size) | exact below_drewN (HB.out.alloc HB.out.size _) _⟩
          case measure => simp [intOf]; omega
    · obtain rfl : k = l.length := by omega
      have Hv := Lib.hid (mayA_good (l := l) (fun i hi => hall i hi))
      have HB := Lib.hid hB
      clear hall hB
      go_wp2_with (go_at_call 56; refine (HSum.out _ HB.out).mono ?_; rintro e w2 ⟨rfl, hB2⟩; have HB2 := Lib.hid hB2; clear hB2)
      go_ret
      refine ⟨?_, HB.out.trans (HB2.out.mono HB.out.size)⟩
      rw [Hv.out]
      refine congrArg Ending.returned (congrArg Value.bool ?_)
      rw [Bool.eq_iff_iff]; simp only [decide_eq_true_eq]; omega
set_option maxRecDepth 100000 in
set_option maxHeartbeats 3200000 in
theorem gmay_any (l : List ArcD) (ao : Option Addr) (cap : Nat) (fp : Nat → Prop) (w : World) (hl : l.length ≤ 100000) (hrd : RdS arcRep fp w ao l) :
    Calls Try.prog 43 #[.slice ao l.length cap] w (RetB (.bool (mayA l)) w) := by
  have HSum := Lib.hid (fun W (h : Below w.heap.size w W) => gsum_any l ao cap fp W (by omega) (hrd.ext h))
  have Hrd := Lib.hid hrd
  clear hrd
  go_enter Try.func43, Try.ntmps43
  go_wp2_with fail
  go_loopw [7] (fun i wr => amayI l w i wr) (fun i _ => l.length - (intOf i).toNat)
  case atStart => exact ⟨0, by omega, rfl, fun j h => by omega, Below.refl _ _⟩
  case round =>
    obtain ⟨k, hk, rfl, hall, hB⟩ := hrel
    obtain ⟨wo, rfl⟩ : ∃ wo : World, wo = wr := ⟨_, rfl⟩
    by_cases hlt : k < l.length
    · obtain ⟨bb, off, rfl, hbb, hc0', hc1', hok⟩ := Hrd.out.arc k hlt
      have hc0 := ((bcell hB).1 _ _ hbb).trans hc0'
      have hc1 := ((bcell hB).1 _ _ hbb).trans hc1'
      have hbs := hB.size
      have HB := Lib.hid hB
      have hir : (k : Int) < (l.length : Int) := by omega
      clear hc0' hc1' hB
      cases k with
      | zero =>
        have hbad := badA_zero l hlt
        simp only [Nat.zero_mul, Nat.add_zero] at hc0 hc1
        generalize l[0] = x at hc0 hc1 hok hbad
        obtain ⟨x0, x1⟩ := x
        simp only at hc0 hc1 hbad
        have hj0 : (0 : Int) < (l.length : Int) := hir
        have hj0' : 0 < l.length := by omega
        by_cases hz : x1 = 0
        · have d1 : decide ((x1 : Int) < 1) = true := decide_eq_true (by omega)
          have d1' : decide (x1 < 1) = true := decide_eq_true (by omega)
          have d2 : ((x1 : Int) == 0) = true := by rw [hz]; rfl
          have d2' : (x1 == 0) = true := by rw [hz]; rfl
          have hv := hbad.2 hz
          clear hz hbad
          have Hv := Lib.hid (mayA_bad hv)
          clear hall
          go_wp2_with fail
          go_quiet (fail)
          go_wp2_with fail
          go_ret
          exact ⟨by rw [Hv.out]; rfl, by first | exact HB.out.trans ((ext_drewN _ _).mono HB.out.size) | exact below_drewN (HB.out.alloc HB.out.size _) _⟩
        · have d1 : decide ((x1 : Int) < 1) = false := decide_eq_false (by omega)
          have d1' : decide (x1 < 1) = false := decide_eq_false (by omega)
          have d2 : ((x1 : Int) == 0) = false := beq_eq_false_iff_ne.2 (by omega)
          have d2' : (x1 == 0) = false := beq_eq_false_iff_ne.2 hz
          have hv := fun h => hz (hbad.1 h)
          clear hz hbad
          have Hg := Lib.hid (all_next hall hv)
          clear hall
          go_wp2_with fail
          go_quiet (fail)
          go_wp2_with fail
          go_roundw
          case rel => exact ⟨0 + 1, by omega, by go_num, Hg.out, by first | exact HB.out.trans ((ext_drewN _ _).mono HB.out.size) | exact below_drewN (HB.out.alloc HB.out.size _) _⟩
          case measure => simp [intOf]; omega
      | succ j =>
        obtain ⟨b2, o2, hab, hb2, hd0', _, _⟩ := Hrd.out.arc j (by omega)
        cases hab
        have hd0 := ((bcell HB.out).1 _ _ hbb).trans hd0'
        clear hd0'
        have hbad := badA_succ l j hlt
        generalize l[j + 1] = x at hc0 hc1 hok hbad
        generalize l[j]'(by omega) = y at hd0 hbad
        obtain ⟨x0, x1⟩ := x
        obtain ⟨y0, y1⟩ := y
        simp only at hc0 hc1 hd0 hbad
        have hd3 : decide ((0 : Int) < (j : Int) + 1) = true := decide_eq_true (by omega)
        have hj0 : (0 : Int) ≤ (j : Int) := by omega
        have hjl : (j : Int) < (l.length : Int) := by omega
        have hjw : IntKind.i64.wrap ((j : Int) + 1 - 1) = (j : Int) := by rw [Int.add_sub_cancel]; exact IntWalk.i64_in _ (by omega)
        by_cases hz : x1 = 0
        · have d1 : decide ((x1 : Int) < 1) = true := decide_eq_true (by omega)
          have d1' : decide (x1 < 1) = true := decide_eq_true (by omega)
          have d2 : ((x1 : Int) == 0) = true := by rw [hz]; rfl
          have d2' : (x1 == 0) = true := by rw [hz]; rfl
          have hv := hbad.2 (.inl hz)
          clear hz hbad hjw
          have Hv := Lib.hid (mayA_bad hv)
          clear hall
          go_wp2_with fail
          go_quiet (fail)
          go_wp2_with fail
          go_ret
          exact ⟨by rw [Hv.out]; rfl, by first | exact HB.out.trans ((ext_drewN _ _).mono HB.out.size) | exact below_drewN (HB.out.alloc HB.out.size _) _⟩
        have d1 : decide ((x1 : Int) < 1) = false := decide_eq_false (by omega)
        have d1' : decide (x1 < 1) = false := decide_eq_false (by omega)
        have d2 : ((x1 : Int) == 0) = false := beq_eq_false_iff_ne.2 (by omega)
        have d2' : (x1 == 0) = false := beq_eq_false_iff_ne.2 hz
        by_cases hxy : x0 ≤ y0
        · have e1 : decide ((x0 : Int) ≤ (y0 : Int)) = true := decide_eq_true (by omega)
          have e1' : decide (x0 ≤ y0) = true := decide_eq_true hxy
          have hv := hbad.2 (.inr hxy)
          clear hz hbad hxy
          have Hv := Lib.hid (mayA_bad hv)
          clear hall
          go_wp2_with fail
          go_quiet (fail)
          go_wp2_with fail
          go_ret
          exact ⟨by rw [Hv.out]; rfl, by first | exact HB.out.trans ((ext_drewN _ _).mono HB.out.size) | exact below_drewN (HB.out.alloc HB.out.size _) _⟩
        · have e1 : decide ((x0 : Int) ≤ (y0 : Int)) = false := decide_eq_false (by omega)
          have e1' : decide (x0 ≤ y0) = false := decide_eq_false hxy
          have hv : ¬ badA l (j + 1) := fun h => by rcases hbad.1 h with h | h <;> omega
          clear hz hbad hxy
          have Hg := Lib.hid (all_next hall hv)
          clear hall
          go_wp2_with fail
          go_quiet (fail)
          go_wp2_with fail
          go_roundw
          case rel => exact ⟨j + 1 + 1, by omega, by go_num, Hg.out, by first | exact HB.out.trans ((ext_drewN _ _).mono HB.out.size) | exact below_drewN (HB.out.alloc HB.out.size _) _⟩
          case measure => simp [intOf]; omega
    · obtain rfl : k = l.length := by omega
      have Hv := Lib.hid (mayA_good (l := l) (fun i hi => hall i hi))
      have HB := Lib.hid hB
      clear hall hB
      go_wp2_with (go_at_call 77; refine (HSum.out _ HB.out).mono ?_; rintro e w2 ⟨rfl, hB2⟩; have HB2 := Lib.hid hB2; clear hB2)
      go_ret
      refine ⟨?_, HB.out.trans (HB2.out.mono HB.out.size)⟩
      rw [Hv.out]
      refine congrArg Ending.returned (congrArg Value.bool ?_)
      rw [Bool.eq_iff_iff]; simp only [decide_eq_true_eq]; omega
end Go.Proofs.Ytlgnpogmgpgdaaa
