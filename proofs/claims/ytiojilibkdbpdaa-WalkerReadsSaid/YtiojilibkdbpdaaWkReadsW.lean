/- WalkerReads: the walk. -/
import Derived.Test.YtiojilibkdbpdaaWkPutsW
namespace Go.Proofs.Ytiojilibkdbpdaa
set_option linter.unusedSimpArgs false
set_option linter.unusedVariables false
set_option maxRecDepth 100000
open Go.RowKit

set_option maxRecDepth 100000 in
set_option maxHeartbeats 6400000 in
theorem reads20_walk (B : List UInt8) (ao : Option Addr) (ca : Nat) (w : World) (hca : B.length ≤ ca) (hr : Rd w ao B.length (byteVals B)) :
    Calls Try.prog 6 #[.slice ao B.length ca] w (RetB (.bool true) w) := by
  have HA := Lib.hid awake20_any
  by_cases h1 : 1000 < B.length
  · have d1 : decide ((1000 : Int) < (B.length : Int)) = true := decide_eq_true (by omega)
    have d1' : decide (1000 < B.length) = true := decide_eq_true (by omega)
    clear hr h1 hca
    go_enter Try.func6, Try.ntmps6
    go_wp2_with (go_at_call 12; refine (HA.out _).mono ?_; rintro e w8 ⟨rfl, hB⟩; have HB := Lib.hid hB; clear hB)
    go_ret
    exact ⟨rfl, HB.out⟩
  have d1 : decide ((1000 : Int) < (B.length : Int)) = false := decide_eq_false (by omega)
  have d1' : decide (1000 < B.length) = false := decide_eq_false (by omega)
  have hbl : B.length ≤ 1000 := by omega
  have Hr := Lib.hid hr
  by_cases hv : B.length % 28 = 0
  · obtain ⟨l, hle⟩ : ∃ l, l = readMany (B.length / 28) B := ⟨_, rfl⟩
    have hll : l.length ≤ 1000 := by rw [hle, readMany_len]; omega
    have hMB : manyB l = B := by rw [hle]; exact manyB_readMany _ _ (by omega)
    have HW := Lib.hid (fun W (h : Below w.heap.size w W) => (show Calls Try.prog 22 #[.slice ao B.length ca] W (AllRet l (.int .i64 0) W) from by
      have h2 := wall_any B ao ca W (by omega) hca (hr.ext h)
      unfold WAllRet at h2
      rw [if_pos hv, if_pos hv, ← hle] at h2
      exact h2))
    have HR := Lib.hid (fun W (h : Below w.heap.size w W) => (show Calls Try.prog 24 #[.slice ao B.length ca] W (AllRet l (.bool true) W) from by
      have h2 := rall_any B ao ca W (by omega) hca (hr.ext h)
      unfold RAllRet at h2
      rw [if_pos hv, decide_eq_true hv, ← hle] at h2
      exact h2))
    have HS := Lib.hid (fun a b c d fa fb W (ha : RdS Rep.wk fa W a l) (hb : RdS Rep.wk fb W b l) => wsame_any l a b c d fa fb W hll ha hb)
    have HP := Lib.hid (fun bo cb fp W (h : RdS Rep.wk fp W bo l) => (show Calls Try.prog 20 #[.slice none 0 0, .slice bo l.length cb] W (PutRet W none B) from by
      have h2 := wput_any l [] hll (by simp) none bo 0 cb none fp W (Own.nil _ _ _) h (fun b _ _ e => by cases e)
      rw [List.nil_append, hMB] at h2
      exact h2))
    have Hc := Lib.hid (fun W (h : Below w.heap.size w W) => (hr.ext h).convS rfl ca)
    clear hr hca hle hMB h1 hv
    go_enter Try.func6, Try.ntmps6
    go_upto_region 7 with (first
      | (go_at_call 22; (with_reducible refine (HW.out _ (Below.refl _ _)).mono ?_); rintro e w1 ⟨a1, c1, f1, rfl, hr1, hf1, hB1⟩; have HR1 := Lib.hid hr1; have HB1 := Lib.hid hB1; clear hr1 hf1 hB1)
      | (go_at_call 24; (with_reducible refine (HR.out _ HB1.out).mono ?_); rintro e w2 ⟨a2, c2, f2, rfl, hr2, hf2, hB2⟩; have HR2 := Lib.hid hr2; have HR1b := Lib.hid (HR1.out.ext hB2); have HB2 := Lib.hid (HB1.out.trans (hB2.mono HB1.out.size)); clear hr2 hf2 hB2))
    have hcd := Hc.out _ (HB2.out.trans ((ext_drew w2).mono HB2.out.size))
    go_region_with (first
      | (go_at_call 23; (with_reducible refine (HS.out _ _ _ _ _ _ _ (HR1b.out.ext (ext_drew w2)) (HR2.out.ext (ext_drew w2))).mono ?_); rintro e w3 ⟨rfl, hB3⟩; have HR3 := Lib.hid (HR1b.out.ext ((ext_drew w2).trans hB3)); have hB3' := HB2.out.trans (((ext_drew w2).trans hB3).mono HB2.out.size); have HB3 := Lib.hid hB3'; have hc3 := Hc.out _ hB3'; clear hB3 hB3')
      | (go_at_call 20; (with_reducible refine (HP.out _ _ _ _ HR3.out).mono ?_); rintro e w4 ⟨v4, rfl, ao4, ca4, g4, rfl, ho4, hg4, hon4⟩; have hc4a := ho4.rd.convS rfl ca4; have hB4 := HB3.out.trans (hon4.below HB3.out.size (fun k _ h => by cases h)); have HB4 := Lib.hid hB4; have hc4 := Hc.out _ hB4; clear ho4 hg4 hon4 hB4)
      | (go_at_call 12; (with_reducible refine (HA.out _).mono ?_); rintro e w8 ⟨rfl, hB⟩; have HB8 := Lib.hid (HB4.out.trans (hB.mono HB4.out.size)); clear hB))
    all_goals
      go_wp2_with fail
      go_ret
      exact ⟨rfl, HB8.out⟩
  · have HW := Lib.hid (fun W (h : Below w.heap.size w W) => (show Calls Try.prog 22 #[.slice ao B.length ca] W (AllRet [] (.int .i64 2) W) from by
      have h2 := wall_any B ao ca W (by omega) hca (hr.ext h)
      unfold WAllRet at h2
      rw [if_neg hv, if_neg hv] at h2
      exact h2))
    have HR := Lib.hid (fun W (h : Below w.heap.size w W) => (show Calls Try.prog 24 #[.slice ao B.length ca] W (AllRet [] (.bool false) W) from by
      have h2 := rall_any B ao ca W (by omega) hca (hr.ext h)
      unfold RAllRet at h2
      rw [if_neg hv, decide_eq_false hv] at h2
      exact h2))
    clear hr hca h1 hv
    go_enter Try.func6, Try.ntmps6
    go_wp2_with (first
      | (go_at_call 22; (with_reducible refine (HW.out _ (Below.refl _ _)).mono ?_); rintro e w1 ⟨a1, c1, f1, rfl, hr1, hf1, hB1⟩; simp only [List.length_nil]; have HB1 := Lib.hid hB1; clear hr1 hf1 hB1)
      | (go_at_call 24; (with_reducible refine (HR.out _ HB1.out).mono ?_); rintro e w2 ⟨a2, c2, f2, rfl, hr2, hf2, hB2⟩; simp only [List.length_nil]; have HB2 := Lib.hid (HB1.out.trans (hB2.mono HB1.out.size)); clear hr2 hf2 hB2)
      | (go_at_call 12; (with_reducible refine (HA.out _).mono ?_); rintro e w8 ⟨rfl, hB⟩; have HB8 := Lib.hid (HB2.out.trans (hB.mono HB2.out.size)); clear hB))
    go_ret
    exact ⟨rfl, HB8.out⟩
end Go.Proofs.Ytiojilibkdbpdaa
