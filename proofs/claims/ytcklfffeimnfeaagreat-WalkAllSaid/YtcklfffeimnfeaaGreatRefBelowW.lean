/- palmerref17.below. -/
import Derived.Test.YtcklfffeimnfeaaGreatRefPickW
import Derived.Test.YtcklfffeimnfeaaGreatRefBelowT
set_option maxRecDepth 100000
set_option maxHeartbeats 12800000
set_option linter.unusedSimpArgs false
set_option linter.unusedVariables false
namespace Go.Proofs.YtcklfffeimnfeaaGreat
open Go.RowKit

def rbI (T : List CellD) (s tv x : Nat) (w : World) (v9 i : Value) (wr : World) : Prop :=
  ∃ k n : Nat, k ≤ T.length ∧ i = .int .i64 (k : Nat) ∧ v9 = .int .u64 (n : Nat) ∧ n + belowT s tv x k (T.drop k) = belowT s tv x 0 T ∧ Below w.heap.size w wr
theorem rbelow17_any (T : List CellD) (s tv x : Nat) (hs : s ≤ 2147483647) (htv : tv < 100000) (hx : x ≤ 2147483647 * 1000) (hb : belowT s tv x 0 T ≤ 2147483647 * 1000) (bo : Option Addr) (cb : Nat) (fq : Nat → Prop) (w : World) (hl : T.length ≤ 1000) (hrt : RdS cellRep fq w bo T) :
    Calls Tryz.prog 120 #[.slice bo T.length cb, .int .u64 (s : Nat), .int .i64 (tv : Nat), .int .u64 (x : Nat)] w (RetB (.int .u64 (belowT s tv x 0 T : Nat)) w) := by
  have Hrt := Lib.hid hrt
  clear hrt
  obtain ⟨tot, htot⟩ : ∃ tot, belowT s tv x 0 T = tot := ⟨_, rfl⟩
  rw [htot] at hb ⊢
  have Htot := Lib.hid htot
  clear htot
  go_enter Tryz.func120, Tryz.ntmps120
  go_wp2_with fail
  go_loopw [9, 15] (fun v9 i wr => rbI T s tv x w v9 i wr) (fun _ i _ => T.length - (intOf i).toNat)
  case atStart => exact ⟨0, 0, by omega, rfl, rfl, by rw [List.drop_zero, Nat.zero_add], Below.refl _ _⟩
  case round =>
    obtain ⟨k, n, hk, rfl, rfl, hn, hB⟩ := hrel
    rename World => wo
    rw [Htot.out] at hn
    have B := Lib.hid hB
    by_cases hlt : k < T.length
    · obtain ⟨bb, off, rfl, hbb, hc0', hc1', hok⟩ := Hrt.out.cel k hlt
      have hc0 := ((bcell hB).1 _ _ hbb).trans hc0'
      have hc1 := ((bcell hB).1 _ _ hbb).trans hc1'
      have hir : (k : Int) < (T.length : Int) := by omega
      have hmb : k * s ≤ 1000 * 2147483647 := Nat.mul_le_mul (by omega) hs
      obtain ⟨ks, hks⟩ : ∃ ks, k * s = ks := ⟨_, rfl⟩
      have hks1 : (k : Int) * (s : Int) = (ks : Int) := by rw [← hks]; simp
      have hks2 : IntKind.u64.wrap ((k : Int) * (s : Int)) = (ks : Int) := by rw [hks1]; exact IntWalk.u64_in _ (by omega)
      by_cases hxk : x ≤ k * s
      · rw [belowT_stop hxk, Nat.add_zero] at hn
        rw [hks] at hxk hmb
        have d : decide ((x : Int) ≤ (ks : Int)) = true := decide_eq_true (by omega)
        have d' : decide (x ≤ ks) = true := decide_eq_true hxk
        have Hn := Lib.hid hn
        clear hc0' hc1' hn hks hxk
        go_wp2_with fail
        go_ret
        exact ⟨by rw [Hn.out]; rfl, B.out⟩
      · rw [belowT_go hlt hxk] at hn
        unfold belowC at hn
        rw [hks] at hxk hmb hn
        obtain ⟨c, hc⟩ : ∃ c, T[k] = c := ⟨_, rfl⟩
        rw [hc] at hc0 hc1 hn hok
        obtain ⟨c0, c1⟩ := c
        simp only at hc0 hc1 hn
        have hok1 : c0 < 18446744073709551616 := hok.1
        have hok2 : c1 < 4294967296 := hok.2
        have d : decide ((x : Int) ≤ (ks : Int)) = false := decide_eq_false (by omega)
        have d' : decide (x ≤ ks) = false := decide_eq_false hxk
        obtain ⟨D, hD⟩ : ∃ D, x - ks = D := ⟨_, rfl⟩
        have hD1 : (x : Int) - (ks : Int) = (D : Int) := by omega
        have hD2 : D ≤ 2147483647 * 1000 := by omega
        rw [hD] at hn
        obtain ⟨rest, hrest⟩ : ∃ rest, belowT s tv x (k + 1) (T.drop (k + 1)) = rest := ⟨_, rfl⟩
        rw [hrest] at hn
        have HRest := Lib.hid hrest
        clear hrest
        clear hc0' hc1' hc hok hD hks hxk hB
        by_cases hsD : s < D
        · have f1 : decide ((s : Int) < (D : Int)) = true := decide_eq_true (by omega)
          have f1' : decide (s < D) = true := decide_eq_true hsD
          rw [Nat.min_eq_right (Nat.le_of_lt hsD)] at hn
          have Hn := hn
          clear hn
          by_cases hk2 : k = tv
          · have e2 : ((k : Int) == (tv : Int)) = true := by simp; omega
            have e2' : (k == tv) = true := by simp; omega
            rw [if_pos hk2] at Hn
            clear hk2
            by_cases hg : c0 < s
            · have m1 : min (s : Int) (c0 : Int) = (c0 : Int) := Int.min_eq_right (by omega)
              rw [Nat.min_eq_right (Nat.le_of_lt hg)] at Hn
              by_cases ho : c1 = tv
              · have o2 : ((c1 : Int) == (tv : Int)) = true := by simp; omega
                have o2' : (c1 == tv) = true := by simp; omega
                rw [if_pos ho] at Hn
                have g1 : decide ((c0 : Int) < (s : Int)) = true := decide_eq_true (by omega)
                have g1' : decide (c0 < s) = true := decide_eq_true hg
                have Hn := Lib.hid Hn
                clear ho
                go_wp2_with fail
                refine ⟨⟨k + 1, ((n + c0) + s - c0), by omega, by go_num, ?_, by rw [Htot.out, HRest.out]; have := Hn.out; omega, B.out⟩, by simp [intOf]; omega⟩
                first
                  | rfl
                  | (refine congrArg (Value.int IntKind.u64) ?_; omega)
                  | (refine congrArg (Value.int IntKind.u64) ?_; (try simp only [IntKind.wrap, IntKind.bits, IntKind.signed, Nat.min_def, Int.min_def]); omega)
                  | (refine congrArg (Value.int IntKind.u64) ?_; simp [IntKind.wrap, IntKind.bits, IntKind.signed]; omega)
              · have o2 : ((c1 : Int) == (tv : Int)) = false := beq_eq_false_iff_ne.2 (by omega)
                have o2' : (c1 == tv) = false := beq_eq_false_iff_ne.2 ho
                rw [if_neg ho] at Hn
                have Hn := Lib.hid Hn
                clear ho
                go_wp2_with fail
                refine ⟨⟨k + 1, (n + c0), by omega, by go_num, ?_, by rw [Htot.out, HRest.out]; have := Hn.out; omega, B.out⟩, by simp [intOf]; omega⟩
                first
                  | rfl
                  | (refine congrArg (Value.int IntKind.u64) ?_; omega)
                  | (refine congrArg (Value.int IntKind.u64) ?_; (try simp only [IntKind.wrap, IntKind.bits, IntKind.signed, Nat.min_def, Int.min_def]); omega)
                  | (refine congrArg (Value.int IntKind.u64) ?_; simp [IntKind.wrap, IntKind.bits, IntKind.signed]; omega)
            · have m1 : min (s : Int) (c0 : Int) = (s : Int) := Int.min_eq_left (by omega)
              rw [Nat.min_eq_left (show s ≤ c0 by omega)] at Hn
              by_cases ho : c1 = tv
              · have o2 : ((c1 : Int) == (tv : Int)) = true := by simp; omega
                have o2' : (c1 == tv) = true := by simp; omega
                rw [if_pos ho] at Hn
                have g1 : decide ((c0 : Int) < (s : Int)) = false := decide_eq_false (by omega)
                have g1' : decide (c0 < s) = false := decide_eq_false (by omega)
                have Hn := Lib.hid Hn
                clear ho
                go_wp2_with fail
                refine ⟨⟨k + 1, (n + s), by omega, by go_num, ?_, by rw [Htot.out, HRest.out]; have := Hn.out; omega, B.out⟩, by simp [intOf]; omega⟩
                first
                  | rfl
                  | (refine congrArg (Value.int IntKind.u64) ?_; omega)
                  | (refine congrArg (Value.int IntKind.u64) ?_; (try simp only [IntKind.wrap, IntKind.bits, IntKind.signed, Nat.min_def, Int.min_def]); omega)
                  | (refine congrArg (Value.int IntKind.u64) ?_; simp [IntKind.wrap, IntKind.bits, IntKind.signed]; omega)
              · have o2 : ((c1 : Int) == (tv : Int)) = false := beq_eq_false_iff_ne.2 (by omega)
                have o2' : (c1 == tv) = false := beq_eq_false_iff_ne.2 ho
                rw [if_neg ho] at Hn
                have Hn := Lib.hid Hn
                clear ho
                go_wp2_with fail
                refine ⟨⟨k + 1, (n + s), by omega, by go_num, ?_, by rw [Htot.out, HRest.out]; have := Hn.out; omega, B.out⟩, by simp [intOf]; omega⟩
                first
                  | rfl
                  | (refine congrArg (Value.int IntKind.u64) ?_; omega)
                  | (refine congrArg (Value.int IntKind.u64) ?_; (try simp only [IntKind.wrap, IntKind.bits, IntKind.signed, Nat.min_def, Int.min_def]); omega)
                  | (refine congrArg (Value.int IntKind.u64) ?_; simp [IntKind.wrap, IntKind.bits, IntKind.signed]; omega)
          · have e2 : ((k : Int) == (tv : Int)) = false := beq_eq_false_iff_ne.2 (by omega)
            have e2' : (k == tv) = false := beq_eq_false_iff_ne.2 hk2
            rw [if_neg hk2, Nat.zero_add] at Hn
            clear hk2
            by_cases ho : c1 = tv
            · have o2 : ((c1 : Int) == (tv : Int)) = true := by simp; omega
              have o2' : (c1 == tv) = true := by simp; omega
              rw [if_pos ho] at Hn
              by_cases hg : c0 < s
              · have g1 : decide ((c0 : Int) < (s : Int)) = true := decide_eq_true (by omega)
                have g1' : decide (c0 < s) = true := decide_eq_true hg
                have Hn := Lib.hid Hn
                clear ho
                go_wp2_with fail
                refine ⟨⟨k + 1, (n + s - c0), by omega, by go_num, ?_, by rw [Htot.out, HRest.out]; have := Hn.out; omega, B.out⟩, by simp [intOf]; omega⟩
                first
                  | rfl
                  | (refine congrArg (Value.int IntKind.u64) ?_; omega)
                  | (refine congrArg (Value.int IntKind.u64) ?_; (try simp only [IntKind.wrap, IntKind.bits, IntKind.signed, Nat.min_def, Int.min_def]); omega)
                  | (refine congrArg (Value.int IntKind.u64) ?_; simp [IntKind.wrap, IntKind.bits, IntKind.signed]; omega)
              · have g1 : decide ((c0 : Int) < (s : Int)) = false := decide_eq_false (by omega)
                have g1' : decide (c0 < s) = false := decide_eq_false (by omega)
                have Hn := Lib.hid Hn
                clear ho
                go_wp2_with fail
                refine ⟨⟨k + 1, n, by omega, by go_num, ?_, by rw [Htot.out, HRest.out]; have := Hn.out; omega, B.out⟩, by simp [intOf]; omega⟩
                first
                  | rfl
                  | (refine congrArg (Value.int IntKind.u64) ?_; omega)
                  | (refine congrArg (Value.int IntKind.u64) ?_; (try simp only [IntKind.wrap, IntKind.bits, IntKind.signed, Nat.min_def, Int.min_def]); omega)
                  | (refine congrArg (Value.int IntKind.u64) ?_; simp [IntKind.wrap, IntKind.bits, IntKind.signed]; omega)
            · have o2 : ((c1 : Int) == (tv : Int)) = false := beq_eq_false_iff_ne.2 (by omega)
              have o2' : (c1 == tv) = false := beq_eq_false_iff_ne.2 ho
              rw [if_neg ho] at Hn
              have Hn := Lib.hid Hn
              clear ho
              go_wp2_with fail
              refine ⟨⟨k + 1, n, by omega, by go_num, ?_, by rw [Htot.out, HRest.out]; have := Hn.out; omega, B.out⟩, by simp [intOf]; omega⟩
              first
                | rfl
                | (refine congrArg (Value.int IntKind.u64) ?_; omega)
                | (refine congrArg (Value.int IntKind.u64) ?_; (try simp only [IntKind.wrap, IntKind.bits, IntKind.signed, Nat.min_def, Int.min_def]); omega)
                | (refine congrArg (Value.int IntKind.u64) ?_; simp [IntKind.wrap, IntKind.bits, IntKind.signed]; omega)
        · have f1 : decide ((s : Int) < (D : Int)) = false := decide_eq_false (by omega)
          have f1' : decide (s < D) = false := decide_eq_false hsD
          rw [Nat.min_eq_left (show D ≤ s by omega)] at hn
          have Hn := hn
          clear hn
          by_cases hk2 : k = tv
          · have e2 : ((k : Int) == (tv : Int)) = true := by simp; omega
            have e2' : (k == tv) = true := by simp; omega
            rw [if_pos hk2] at Hn
            clear hk2
            by_cases hg : c0 < D
            · have m1 : min (D : Int) (c0 : Int) = (c0 : Int) := Int.min_eq_right (by omega)
              rw [Nat.min_eq_right (Nat.le_of_lt hg)] at Hn
              by_cases ho : c1 = tv
              · have o2 : ((c1 : Int) == (tv : Int)) = true := by simp; omega
                have o2' : (c1 == tv) = true := by simp; omega
                rw [if_pos ho] at Hn
                have g1 : decide ((c0 : Int) < (D : Int)) = true := decide_eq_true (by omega)
                have g1' : decide (c0 < D) = true := decide_eq_true hg
                have Hn := Lib.hid Hn
                clear ho
                go_wp2_with fail
                refine ⟨⟨k + 1, ((n + c0) + D - c0), by omega, by go_num, ?_, by rw [Htot.out, HRest.out]; have := Hn.out; omega, B.out⟩, by simp [intOf]; omega⟩
                first
                  | rfl
                  | (refine congrArg (Value.int IntKind.u64) ?_; omega)
                  | (refine congrArg (Value.int IntKind.u64) ?_; (try simp only [IntKind.wrap, IntKind.bits, IntKind.signed, Nat.min_def, Int.min_def]); omega)
                  | (refine congrArg (Value.int IntKind.u64) ?_; simp [IntKind.wrap, IntKind.bits, IntKind.signed]; omega)
              · have o2 : ((c1 : Int) == (tv : Int)) = false := beq_eq_false_iff_ne.2 (by omega)
                have o2' : (c1 == tv) = false := beq_eq_false_iff_ne.2 ho
                rw [if_neg ho] at Hn
                have Hn := Lib.hid Hn
                clear ho
                go_wp2_with fail
                refine ⟨⟨k + 1, (n + c0), by omega, by go_num, ?_, by rw [Htot.out, HRest.out]; have := Hn.out; omega, B.out⟩, by simp [intOf]; omega⟩
                first
                  | rfl
                  | (refine congrArg (Value.int IntKind.u64) ?_; omega)
                  | (refine congrArg (Value.int IntKind.u64) ?_; (try simp only [IntKind.wrap, IntKind.bits, IntKind.signed, Nat.min_def, Int.min_def]); omega)
                  | (refine congrArg (Value.int IntKind.u64) ?_; simp [IntKind.wrap, IntKind.bits, IntKind.signed]; omega)
            · have m1 : min (D : Int) (c0 : Int) = (D : Int) := Int.min_eq_left (by omega)
              rw [Nat.min_eq_left (show D ≤ c0 by omega)] at Hn
              by_cases ho : c1 = tv
              · have o2 : ((c1 : Int) == (tv : Int)) = true := by simp; omega
                have o2' : (c1 == tv) = true := by simp; omega
                rw [if_pos ho] at Hn
                have g1 : decide ((c0 : Int) < (D : Int)) = false := decide_eq_false (by omega)
                have g1' : decide (c0 < D) = false := decide_eq_false (by omega)
                have Hn := Lib.hid Hn
                clear ho
                go_wp2_with fail
                refine ⟨⟨k + 1, (n + D), by omega, by go_num, ?_, by rw [Htot.out, HRest.out]; have := Hn.out; omega, B.out⟩, by simp [intOf]; omega⟩
                first
                  | rfl
                  | (refine congrArg (Value.int IntKind.u64) ?_; omega)
                  | (refine congrArg (Value.int IntKind.u64) ?_; (try simp only [IntKind.wrap, IntKind.bits, IntKind.signed, Nat.min_def, Int.min_def]); omega)
                  | (refine congrArg (Value.int IntKind.u64) ?_; simp [IntKind.wrap, IntKind.bits, IntKind.signed]; omega)
              · have o2 : ((c1 : Int) == (tv : Int)) = false := beq_eq_false_iff_ne.2 (by omega)
                have o2' : (c1 == tv) = false := beq_eq_false_iff_ne.2 ho
                rw [if_neg ho] at Hn
                have Hn := Lib.hid Hn
                clear ho
                go_wp2_with fail
                refine ⟨⟨k + 1, (n + D), by omega, by go_num, ?_, by rw [Htot.out, HRest.out]; have := Hn.out; omega, B.out⟩, by simp [intOf]; omega⟩
                first
                  | rfl
                  | (refine congrArg (Value.int IntKind.u64) ?_; omega)
                  | (refine congrArg (Value.int IntKind.u64) ?_; (try simp only [IntKind.wrap, IntKind.bits, IntKind.signed, Nat.min_def, Int.min_def]); omega)
                  | (refine congrArg (Value.int IntKind.u64) ?_; simp [IntKind.wrap, IntKind.bits, IntKind.signed]; omega)
          · have e2 : ((k : Int) == (tv : Int)) = false := beq_eq_false_iff_ne.2 (by omega)
            have e2' : (k == tv) = false := beq_eq_false_iff_ne.2 hk2
            rw [if_neg hk2, Nat.zero_add] at Hn
            clear hk2
            by_cases ho : c1 = tv
            · have o2 : ((c1 : Int) == (tv : Int)) = true := by simp; omega
              have o2' : (c1 == tv) = true := by simp; omega
              rw [if_pos ho] at Hn
              by_cases hg : c0 < D
              · have g1 : decide ((c0 : Int) < (D : Int)) = true := decide_eq_true (by omega)
                have g1' : decide (c0 < D) = true := decide_eq_true hg
                have Hn := Lib.hid Hn
                clear ho
                go_wp2_with fail
                refine ⟨⟨k + 1, (n + D - c0), by omega, by go_num, ?_, by rw [Htot.out, HRest.out]; have := Hn.out; omega, B.out⟩, by simp [intOf]; omega⟩
                first
                  | rfl
                  | (refine congrArg (Value.int IntKind.u64) ?_; omega)
                  | (refine congrArg (Value.int IntKind.u64) ?_; (try simp only [IntKind.wrap, IntKind.bits, IntKind.signed, Nat.min_def, Int.min_def]); omega)
                  | (refine congrArg (Value.int IntKind.u64) ?_; simp [IntKind.wrap, IntKind.bits, IntKind.signed]; omega)
              · have g1 : decide ((c0 : Int) < (D : Int)) = false := decide_eq_false (by omega)
                have g1' : decide (c0 < D) = false := decide_eq_false (by omega)
                have Hn := Lib.hid Hn
                clear ho
                go_wp2_with fail
                refine ⟨⟨k + 1, n, by omega, by go_num, ?_, by rw [Htot.out, HRest.out]; have := Hn.out; omega, B.out⟩, by simp [intOf]; omega⟩
                first
                  | rfl
                  | (refine congrArg (Value.int IntKind.u64) ?_; omega)
                  | (refine congrArg (Value.int IntKind.u64) ?_; (try simp only [IntKind.wrap, IntKind.bits, IntKind.signed, Nat.min_def, Int.min_def]); omega)
                  | (refine congrArg (Value.int IntKind.u64) ?_; simp [IntKind.wrap, IntKind.bits, IntKind.signed]; omega)
            · have o2 : ((c1 : Int) == (tv : Int)) = false := beq_eq_false_iff_ne.2 (by omega)
              have o2' : (c1 == tv) = false := beq_eq_false_iff_ne.2 ho
              rw [if_neg ho] at Hn
              have Hn := Lib.hid Hn
              clear ho
              go_wp2_with fail
              refine ⟨⟨k + 1, n, by omega, by go_num, ?_, by rw [Htot.out, HRest.out]; have := Hn.out; omega, B.out⟩, by simp [intOf]; omega⟩
              first
                | rfl
                | (refine congrArg (Value.int IntKind.u64) ?_; omega)
                | (refine congrArg (Value.int IntKind.u64) ?_; (try simp only [IntKind.wrap, IntKind.bits, IntKind.signed, Nat.min_def, Int.min_def]); omega)
                | (refine congrArg (Value.int IntKind.u64) ?_; simp [IntKind.wrap, IntKind.bits, IntKind.signed]; omega)
    · obtain rfl : k = T.length := by omega
      rw [belowT_end, Nat.add_zero] at hn
      have Hn := Lib.hid hn
      clear hn hB
      go_wp2_with fail
      go_ret
      exact ⟨by rw [Hn.out]; rfl, B.out⟩
end Go.Proofs.YtcklfffeimnfeaaGreat
