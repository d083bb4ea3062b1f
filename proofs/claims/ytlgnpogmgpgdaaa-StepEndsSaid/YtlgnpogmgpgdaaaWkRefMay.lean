/- The reference's May of walkers. -/
import Derived.Test.YtlgnpogmgpgdaaaWkMay
namespace Go.Proofs.Ytlgnpogmgpgdaaa
set_option linter.unusedSimpArgs false
set_option linter.unusedVariables false
set_option maxRecDepth 100000
open Go.RowKit

theorem newJ_state (j : JobD) (id : Nat) : (newJ j id).state = 0 := by unfold newJ; split <;> rfl
theorem mayW_bad {j : JobD} {x : WkD} (h : srcH j x.id = false ∨ j.length < x.step ∨ j.tries ≤ x.try_) : mayW j x = false := by unfold mayW; rw [if_pos h]
theorem mayW_state {j : JobD} {x : WkD} (h : 1 < x.state) : mayW j x = false := by
  unfold mayW
  split
  · rfl
  split
  · refine decide_eq_false (fun e => ?_)
    have := newJ_state j x.id
    rw [← e] at this
    omega
  split
  · rfl
  rw [if_neg (by omega), decide_eq_false (by omega)]
  rfl
theorem mayW_zero {j : JobD} {x : WkD} (h : srcH j x.id = true) (h1 : ¬ j.length < x.step) (h2 : ¬ j.tries ≤ x.try_) (h0 : x.step = 0) : mayW j x = decide (x.at_ = j.src[srcN j x.id]! ∧ x.prev = 0 ∧ x.next = 0 ∧ x.try_ = 0 ∧ x.state = 0) := by
  unfold mayW
  rw [if_neg (by rw [h]; simp; omega), if_pos h0]
  have hlt : x.id < walkersJ j := of_decide_eq_true h
  obtain ⟨a, b, c, d, e, f, g⟩ := x
  simp only at h0 h1 h2 hlt
  unfold newJ
  rw [if_pos hlt]
  rw [Bool.eq_iff_iff]
  simp only [decide_eq_true_eq, WkD.mk.injEq, true_and]
  omega

set_option maxRecDepth 100000 in
set_option maxHeartbeats 6400000 in
theorem rmayw_any (j : JobD) (hj : JobOk j) (ao : Option Addr) (cap : Nat) (x : WkD) (hx : WkOk x) (w : World) (hl : j.src.length ≤ 1000000) (hsrc : Rd w ao j.src.length (u32s j.src)) :
    Calls Try.prog 15 #[.agg (jobCs j ao cap), .agg (wkCs x)] w (RetB (.bool (mayW j x)) w) := by
  have HM := Lib.hid (fun W (h : Below w.heap.size w W) => rsource_any j hj ao cap x.id hx.id W hl (hsrc.ext h))
  have Hs := Lib.hid (fun (h : srcH j x.id = true) => (show ∃ b off, ao = some ⟨b, off, none⟩ ∧ b < w.heap.size ∧ srcN j x.id < j.src.length ∧ w.cell? ⟨b, off + srcN j x.id, none⟩ = some (.int .u32 (j.src[srcN j x.id]! : Nat)) from by
    have hk := srcN_lt (of_decide_eq_true h)
    obtain ⟨b, off, ha, hb, hc⟩ := hsrc.pos (by omega)
    refine ⟨b, off, ha, hb, hk, ?_⟩
    rw [hc _ hk]
    simp only [u32s, List.getElem?_map, List.getElem?_eq_getElem hk, Option.map_some]
    rw [getElem!_pos j.src _ hk]))
  unfold sourceV at HM
  have hjk := hj.kind
  have hxs := hx.state
  obtain ⟨W2, hW2⟩ : ∃ W2, W2 = (w.alloc (.cells (jobCs j ao cap) 28)).alloc (.cells (wkCs x) 30) := ⟨_, rfl⟩
  have HB2 := Lib.hid (show Below w.heap.size w W2 by rw [hW2]; exact (ext_alloc w _).alloc (by simp) _)
  have hz2 : W2.heap.size = w.heap.size + 2 := by rw [hW2]; simp
  have Hh1 := Lib.hid (show W2.heap[w.heap.size]? = some (.cells (jobCs j ao cap) 28 (0, 0)) by rw [hW2]; exact heap_alloc2_old _ _ _)
  have Hh2 := Lib.hid (show W2.heap[w.heap.size + 1]? = some (.cells (wkCs x) 30 (0, 0)) by rw [hW2]; exact heap_alloc2_new _ _ _)
  obtain ⟨r, hr⟩ : ∃ r, r = mayW j x := ⟨_, rfl⟩
  rw [← hr]
  have Hr := Lib.hid hr
  clear hr
  have d0 := (wk_cells Hh2.out).1
  clear hsrc hx hj
  go_enter Try.func15, Try.ntmps15
  go_upto_region 1 with fail
  rw [← hW2]
  clear hW2
  go_upto_region 2 with (first
      | (refine wpList_load_row rfl _ _ rfl w.heap.size rfl 28 (jobCs j ao cap) (0, 0) _ Hh1.out Try.underlying28 rfl (show _ = some 15 by kernel_rfl) ?_)
      | (go_at_call 55; refine (HM.out _ HB2.out).mono ?_; rintro e w1 ⟨rfl, hB1⟩; have HB1 := Lib.hid hB1; clear hB1))
  obtain ⟨x0, x1, x2, x3, x4, x5, x6⟩ := (wk_cells Hh2.out).keep (HB1.out.block _ (by omega))
  have hjc : ∀ c v, (jobCs j ao cap)[c]? = some v → w1.cell? ⟨w.heap.size, c, none⟩ = some v := fun c v h => by
    rw [World.cell?_of_block (w := W2) (HB1.out.block w.heap.size (by omega)), cell_of_row W2 _ c _ _ (0, 0) Hh1.out]; exact h
  have j0 : w1.cell? ⟨w.heap.size, 0, none⟩ = some (.int .u8 (j.kind : Nat)) := hjc 0 _ rfl
  have j2 : w1.cell? ⟨w.heap.size, 2, none⟩ = some (.int .u32 (j.length : Nat)) := hjc 2 _ rfl
  have j4 : w1.cell? ⟨w.heap.size, 4, none⟩ = some (.slice ao j.src.length cap) := hjc 4 _ rfl
  have j9 : w1.cell? ⟨w.heap.size, 9, none⟩ = some (.int .u32 (j.tries : Nat)) := hjc 9 _ rfl
  have HBw := Lib.hid (HB2.out.trans (HB1.out.mono (by omega)))
  clear hjc d0
  cases his : srcH j x.id with
  | false =>
    have hb := mayW_bad (j := j) (x := x) (.inl his)
    clear his
    have Hv := Lib.hid (show r = false from Hr.out.trans hb)
    go_wp2_with fail
    go_ret
    exact ⟨by rw [Hv.out]; rfl, HBw.out⟩
  | true =>
    obtain ⟨b, off, rfl, hb, hk, hc⟩ := Hs.out his
    have hcs := (World.cell?_of_block (w := w) (HBw.out.block b hb)).trans hc
    have His := Lib.hid his
    have Hz := Lib.hid (fun a c d => mayW_zero (j := j) (x := x) his a c d)
    generalize srcN j x.id = s at *
    generalize j.src[s]! = y at *
    have hks : (s : Int) < (j.src.length : Int) := by omega
    clear HM Hs hc his
    by_cases h1 : j.length < x.step
    · have l1 : decide (j.length < x.step) = true := decide_eq_true h1
      have l2 : decide ((j.length : Int) < (x.step : Int)) = true := decide_eq_true (by omega)
      have hb := mayW_bad (j := j) (x := x) (.inr (.inl h1))
      clear h1
      have Hv := Lib.hid (show r = false from Hr.out.trans hb)
      go_wp2_with fail
      go_ret
      exact ⟨by rw [Hv.out]; rfl, HBw.out⟩
    have l1 : decide (j.length < x.step) = false := decide_eq_false h1
    have l2 : decide ((j.length : Int) < (x.step : Int)) = false := decide_eq_false (by omega)
    by_cases h2 : j.tries ≤ x.try_
    · have t1 : decide (j.tries ≤ x.try_) = true := decide_eq_true h2
      have t2 : decide ((j.tries : Int) ≤ (x.try_ : Int)) = true := decide_eq_true (by omega)
      have hb := mayW_bad (j := j) (x := x) (.inr (.inr h2))
      clear h1 h2
      have Hv := Lib.hid (show r = false from Hr.out.trans hb)
      go_wp2_with fail
      go_ret
      exact ⟨by rw [Hv.out]; rfl, HBw.out⟩
    have t1 : decide (j.tries ≤ x.try_) = false := decide_eq_false h2
    have t2 : decide ((j.tries : Int) ≤ (x.try_ : Int)) = false := decide_eq_false (by omega)
    by_cases h3 : 1 < x.state
    · have s1 : decide (1 < x.state) = true := decide_eq_true h3
      have s2 : decide (1 < (x.state : Int)) = true := decide_eq_true (by omega)
      have hb := mayW_state (j := j) h3
      clear h1 h2 h3
      have Hv := Lib.hid (show r = false from Hr.out.trans hb)
      go_wp2_with fail
      go_ret
      exact ⟨by rw [Hv.out]; rfl, HBw.out⟩
    have s1 : decide (1 < x.state) = false := decide_eq_false h3
    have s2 : decide (1 < (x.state : Int)) = false := decide_eq_false (by omega)
    by_cases h0 : x.step = 0
    · have z1 : (x.step == 0) = true := by rw [h0]; rfl
      have z2 : ((x.step : Int) == 0) = true := by rw [h0]; rfl
      have hz := Hr.out.trans (Hz.out h1 h2 h0)
      by_cases ha : x.at_ = y
      case neg =>
        have a1 : (x.at_ != y) = true := bne_iff_ne.2 ha
        have a2 : ((x.at_ : Int) != (y : Int)) = true := bne_iff_ne.2 (by omega)
        have hv : r = false := hz.trans (decide_eq_false (fun h => ha h.1))
        clear hz ha h0 h1 h2 h3
        have Hv := Lib.hid (show r = false from hv)
        go_wp2_with fail
        go_quiet (fail)
        go_wp2_with fail
        go_ret
        exact ⟨by rw [Hv.out]; rfl, HBw.out.trans ((ext_drewN _ _).mono HBw.out.size)⟩
      have a1 : (x.at_ != y) = false := bne_eq_false_iff_eq.2 ha
      have a2 : ((x.at_ : Int) != (y : Int)) = false := bne_eq_false_iff_eq.2 (by omega)
      by_cases hp : x.prev = 0
      case neg =>
        have p1 : (x.prev != 0) = true := bne_iff_ne.2 hp
        have p2 : ((x.prev : Int) != 0) = true := bne_iff_ne.2 (by omega)
        have hv : r = false := hz.trans (decide_eq_false (fun h => hp h.2.1))
        clear hz hp ha h0 h1 h2 h3
        have Hv := Lib.hid (show r = false from hv)
        go_wp2_with fail
        go_quiet (fail)
        go_wp2_with fail
        go_ret
        exact ⟨by rw [Hv.out]; rfl, HBw.out.trans ((ext_drewN _ _).mono HBw.out.size)⟩
      have p1 : (x.prev != 0) = false := bne_eq_false_iff_eq.2 hp
      have p2 : ((x.prev : Int) != 0) = false := bne_eq_false_iff_eq.2 (by omega)
      by_cases ht : x.try_ = 0
      case neg =>
        have q1 : (x.try_ != 0) = true := bne_iff_ne.2 ht
        have q2 : ((x.try_ : Int) != 0) = true := bne_iff_ne.2 (by omega)
        have hv : r = false := hz.trans (decide_eq_false (fun h => ht h.2.2.2.1))
        clear hz hp ha ht h0 h1 h2 h3
        have Hv := Lib.hid (show r = false from hv)
        go_wp2_with fail
        go_quiet (fail)
        go_wp2_with fail
        go_ret
        exact ⟨by rw [Hv.out]; rfl, HBw.out.trans ((ext_drewN _ _).mono HBw.out.size)⟩
      have q1 : (x.try_ != 0) = false := bne_eq_false_iff_eq.2 ht
      have q2 : ((x.try_ : Int) != 0) = false := bne_eq_false_iff_eq.2 (by omega)
      by_cases hst : x.state = 0
      · have e1 : (x.state == 0) = true := by rw [hst]; rfl
        have e2 : ((x.state : Int) == 0) = true := by rw [hst]; rfl
        have hv : r = decide (x.next = 0) := hz.trans (by rw [Bool.eq_iff_iff]; simp only [decide_eq_true_eq]; omega)
        have Hv := Lib.hid hv
        clear hz hp ha ht hst h0 h1 h2 h3 hv
        go_wp2_with fail
        go_quiet (fail)
        go_wp2_with fail
        all_goals
          go_ret
          refine ⟨?_, HBw.out.trans ((ext_drewN _ _).mono HBw.out.size)⟩
          rw [Hv.out]
          refine congrArg Ending.returned (congrArg Value.bool (Bool.eq_iff_iff.2 ?_))
          simp only [beq_iff_eq, decide_eq_true_eq]
          omega
      · have e1 : (x.state == 0) = false := beq_eq_false_iff_ne.2 hst
        have e2 : ((x.state : Int) == 0) = false := beq_eq_false_iff_ne.2 (by omega)
        have g1 : decide (0 < x.step) = false := decide_eq_false (by omega)
        have g2 : decide (0 < (x.step : Int)) = false := decide_eq_false (by omega)
        have hv : r = false := hz.trans (decide_eq_false (fun h => hst h.2.2.2.2))
        have Hv := Lib.hid hv
        clear hz hp ha ht hst h0 h1 h2 h3 hv
        go_wp2_with fail
        go_quiet (fail)
        go_wp2_with fail
        all_goals
          go_ret
          exact ⟨by rw [Hv.out]; simp, HBw.out.trans ((ext_drewN _ _).mono HBw.out.size)⟩
    · have z1 : (x.step == 0) = false := beq_eq_false_iff_ne.2 h0
      have z2 : ((x.step : Int) == 0) = false := beq_eq_false_iff_ne.2 (by omega)
      have hr := Hr.out
      unfold mayW at hr
      rw [if_neg (by rw [His.out]; simp; omega), if_neg h0] at hr
      have Hr2 := Lib.hid hr
      have H0 := Lib.hid h0
      clear hr h0 h1 h2 h3
      go_wp2_with fail
      go_quiet (fail)
      go_wp2_with fail
      all_goals go_ret
      all_goals refine ⟨?_, HBw.out.trans ((ext_drewN _ _).mono HBw.out.size)⟩
      all_goals
        have h0 := H0.out
        rw [Hr2.out]
        clear His Hr Hr2 HBw x0 x1 x2 x3 x4 x5 x6 j0 j2 j4 j9 HB2 hz2 Hh1 Hh2 Hz HB1 hcs H0
        refine congrArg Ending.returned (congrArg Value.bool (Bool.eq_iff_iff.2 ?_))
        try simp only [beq_iff_eq, bne_iff_ne, beq_eq_false_iff_ne, bne_eq_false_iff_eq, Bool.not_eq_true', Bool.not_eq_false', Bool.not_true, Bool.not_false, ne_eq, Bool.and_eq_true, Bool.or_eq_true, Bool.or_eq_false_iff, decide_eq_true_eq, decide_eq_false_iff_not, Bool.false_eq_true, Bool.true_eq_false, false_or, true_or, if_true, if_false, iff_self, false_iff, iff_false, not_true, not_false_iff] at *
      all_goals try omega
      all_goals (repeat' split)
      all_goals try simp only [beq_iff_eq, bne_iff_ne, ne_eq, Bool.and_eq_true, Bool.or_eq_true, decide_eq_true_eq, Bool.false_eq_true, iff_false, not_false_iff]
      all_goals omega
end Go.Proofs.Ytlgnpogmgpgdaaa
