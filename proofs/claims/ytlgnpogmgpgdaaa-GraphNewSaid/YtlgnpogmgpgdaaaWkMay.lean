/- walker.May. -/
import Derived.Test.YtlgnpogmgpgdaaaJobWalk
import Derived.Test.YtlgnpogmgpgdaaaWkEq
namespace Go.Proofs.Ytlgnpogmgpgdaaa
set_option linter.unusedSimpArgs false
set_option linter.unusedVariables false
set_option maxRecDepth 100000
open Go.RowKit

set_option maxHeartbeats 1600000 in
theorem apart_any (x : WkD) (w : World) : Calls Try.prog 76 #[.agg (wkCs x)] w (RetB (.agg (wkCs x)) w) := by
  obtain ⟨a, b, c, d, e, f, g⟩ := x
  unfold wkCs
  go_enter Try.func76, Try.ntmps76
  go_wp2_with fail
  exact bodyPost_ret (results_cell_row rfl _ _ (w.heap.size + 1) 129 _ (0, 0) _ rfl (heap_alloc2_new _ _ _) Try.underlying129 rfl (show _ = some 7 by kernel_rfl)) rfl ⟨rfl, (ext_alloc w _).alloc (by simp) _⟩
def mayW (j : JobD) (x : WkD) : Bool :=
  if srcH j x.id = false ∨ j.length < x.step ∨ j.tries ≤ x.try_ then false
  else if x.step = 0 then decide (x = newJ j x.id)
  else if j.kind ≠ 2 ∧ (x.prev ≠ 0 ∨ x.try_ ≠ 0) then false
  else if x.state = 0 then decide (x.next = 0)
  else decide (x.state = 1) && (decide (j.kind = 2) && decide (x.step < j.length))

theorem wk_cell {w : World} {b : Nat} {x : WkD} {t : TypeId} (h : w.heap[b]? = some (.cells (wkCs x) t (0, 0))) (c : Nat) : w.cell? ⟨b, c, none⟩ = (wkCs x)[c]? := cell_of_row w b c _ t (0, 0) h
def WkCells (w : World) (b : Nat) (x : WkD) : Prop := w.cell? ⟨b, 0, none⟩ = some (.int .u32 (x.id : Nat)) ∧ w.cell? ⟨b, 1, none⟩ = some (.int .u32 (x.step : Nat)) ∧ w.cell? ⟨b, 2, none⟩ = some (.int .u32 (x.at_ : Nat)) ∧ w.cell? ⟨b, 3, none⟩ = some (.int .u32 (x.prev : Nat)) ∧ w.cell? ⟨b, 4, none⟩ = some (.int .u32 (x.next : Nat)) ∧ w.cell? ⟨b, 5, none⟩ = some (.int .u32 (x.try_ : Nat)) ∧ w.cell? ⟨b, 6, none⟩ = some (.int .u32 (x.state : Nat))
theorem wk_cells {w : World} {b : Nat} {x : WkD} {t : TypeId} (h : w.heap[b]? = some (.cells (wkCs x) t (0, 0))) : WkCells w b x :=
  ⟨wk_cell h 0, wk_cell h 1, wk_cell h 2, wk_cell h 3, wk_cell h 4, wk_cell h 5, wk_cell h 6⟩
theorem WkCells.keep {w w' : World} {b : Nat} {x : WkD} (h : WkCells w b x) (hk : w'.heap[b]? = w.heap[b]?) : WkCells w' b x := by
  obtain ⟨a0, a1, a2, a3, a4, a5, a6⟩ := h
  exact ⟨(World.cell?_of_block (w := w) hk).trans a0, (World.cell?_of_block (w := w) hk).trans a1, (World.cell?_of_block (w := w) hk).trans a2, (World.cell?_of_block (w := w) hk).trans a3, (World.cell?_of_block (w := w) hk).trans a4, (World.cell?_of_block (w := w) hk).trans a5, (World.cell?_of_block (w := w) hk).trans a6⟩
theorem ss_keep {W W' : World} {b1 b5 : Nat} {x y : WkD} (h : W.cell? ⟨b1, 0, none⟩ = some (.int .u32 (x.id : Nat)) ∧ W.cell? ⟨b1, 1, none⟩ = some (.int .u32 (x.step : Nat)) ∧ W.cell? ⟨b1, 2, none⟩ = some (.int .u32 (x.at_ : Nat)) ∧ W.cell? ⟨b1, 3, none⟩ = some (.int .u32 (x.prev : Nat)) ∧ W.cell? ⟨b1, 4, none⟩ = some (.int .u32 (x.next : Nat)) ∧ W.cell? ⟨b1, 5, none⟩ = some (.int .u32 (x.try_ : Nat)) ∧ W.cell? ⟨b1, 6, none⟩ = some (.int .u32 (x.state : Nat)) ∧ W.cell? ⟨b5, 0, none⟩ = some (.int .u32 (y.id : Nat)) ∧ W.cell? ⟨b5, 1, none⟩ = some (.int .u32 (y.step : Nat)) ∧ W.cell? ⟨b5, 2, none⟩ = some (.int .u32 (y.at_ : Nat)) ∧ W.cell? ⟨b5, 3, none⟩ = some (.int .u32 (y.prev : Nat)) ∧ W.cell? ⟨b5, 4, none⟩ = some (.int .u32 (y.next : Nat)) ∧ W.cell? ⟨b5, 5, none⟩ = some (.int .u32 (y.try_ : Nat)) ∧ W.cell? ⟨b5, 6, none⟩ = some (.int .u32 (y.state : Nat))) (hB : Below W.heap.size W W') : W'.cell? ⟨b1, 0, none⟩ = some (.int .u32 (x.id : Nat)) ∧ W'.cell? ⟨b1, 1, none⟩ = some (.int .u32 (x.step : Nat)) ∧ W'.cell? ⟨b1, 2, none⟩ = some (.int .u32 (x.at_ : Nat)) ∧ W'.cell? ⟨b1, 3, none⟩ = some (.int .u32 (x.prev : Nat)) ∧ W'.cell? ⟨b1, 4, none⟩ = some (.int .u32 (x.next : Nat)) ∧ W'.cell? ⟨b1, 5, none⟩ = some (.int .u32 (x.try_ : Nat)) ∧ W'.cell? ⟨b1, 6, none⟩ = some (.int .u32 (x.state : Nat)) ∧ W'.cell? ⟨b5, 0, none⟩ = some (.int .u32 (y.id : Nat)) ∧ W'.cell? ⟨b5, 1, none⟩ = some (.int .u32 (y.step : Nat)) ∧ W'.cell? ⟨b5, 2, none⟩ = some (.int .u32 (y.at_ : Nat)) ∧ W'.cell? ⟨b5, 3, none⟩ = some (.int .u32 (y.prev : Nat)) ∧ W'.cell? ⟨b5, 4, none⟩ = some (.int .u32 (y.next : Nat)) ∧ W'.cell? ⟨b5, 5, none⟩ = some (.int .u32 (y.try_ : Nat)) ∧ W'.cell? ⟨b5, 6, none⟩ = some (.int .u32 (y.state : Nat)) := by
  obtain ⟨a0, a1, a2, a3, a4, a5, a6, c0, c1, c2, c3, c4, c5, c6⟩ := h
  have k1 := fun o => World.cell?_of_block (w := W) (w' := W') (a := ⟨b1, o, none⟩) (hB.block b1 (block_lt_of_cell a0))
  have k5 := fun o => World.cell?_of_block (w := W) (w' := W') (a := ⟨b5, o, none⟩) (hB.block b5 (block_lt_of_cell c0))
  exact ⟨(k1 0).trans a0, (k1 1).trans a1, (k1 2).trans a2, (k1 3).trans a3, (k1 4).trans a4, (k1 5).trans a5, (k1 6).trans a6, (k5 0).trans c0, (k5 1).trans c1, (k5 2).trans c2, (k5 3).trans c3, (k5 4).trans c4, (k5 5).trans c5, (k5 6).trans c6⟩
def JbCells (w : World) (b : Nat) (j : JobD) : Prop := w.cell? ⟨b, 0, none⟩ = some (.int .u8 (j.kind : Nat)) ∧ w.cell? ⟨b, 2, none⟩ = some (.int .u32 (j.length : Nat)) ∧ w.cell? ⟨b, 9, none⟩ = some (.int .u32 (j.tries : Nat))
set_option maxHeartbeats 6400000 in
theorem mayw_any (j : JobD) (hj : JobOk j) (ao : Option Addr) (cap : Nat) (x : WkD) (hx : WkOk x) (w : World) (hl : j.src.length ≤ 1000000) (hsrc : Rd w ao j.src.length (u32s j.src)) :
    Calls Try.prog 42 #[.agg (jobCs j ao cap), .agg (wkCs x)] w (RetB (.bool (mayW j x)) w) := by
  have HM := Lib.hid (fun W (h : Below w.heap.size w W) => jnew_any j hj ao cap x.id hx.id W hl (hsrc.ext h))
  unfold newV at HM
  have Hx := Lib.hid hx
  have hjk := hj.kind
  obtain ⟨W2, hW2⟩ : ∃ W2, W2 = (w.alloc (.cells (jobCs j ao cap) 28)).alloc (.cells (wkCs x) 30) := ⟨_, rfl⟩
  have HB2 := Lib.hid (show Below w.heap.size w W2 by rw [hW2]; exact (ext_alloc w _).alloc (by simp) _)
  have hz2 : W2.heap.size = w.heap.size + 2 := by rw [hW2]; simp
  have Hh1 := Lib.hid (show W2.heap[w.heap.size]? = some (.cells (jobCs j ao cap) 28 (0, 0)) by rw [hW2]; exact heap_alloc2_old _ _ _)
  have Hh2 := Lib.hid (show W2.heap[w.heap.size + 1]? = some (.cells (wkCs x) 30 (0, 0)) by rw [hW2]; exact heap_alloc2_new _ _ _)
  obtain ⟨r, hr⟩ : ∃ r, r = mayW j x := ⟨_, rfl⟩
  rw [← hr]
  unfold mayW at hr
  have Hr := Lib.hid hr
  clear hr
  have d0 := (wk_cells Hh2.out).1
  clear hsrc hx hj
  go_enter Try.func42, Try.ntmps42
  go_upto_region 1 with fail
  rw [← hW2]
  generalize newJ j x.id = y at *
  generalize srcH j x.id = is at *
  clear hW2
  go_cut [5, 6] (fun v5 v6 wx => v6 = .bool is ∧ ∃ b5, v5 = .pointer (some ⟨b5, 0, none⟩) ∧ WkCells wx b5 y ∧ Below W2.heap.size W2 wx ∧ W2.heap.size ≤ b5 ∧ b5 < wx.heap.size)
  case first =>
    rw [show wkCs y = #[.int .u32 (y.id : Nat), .int .u32 (y.step : Nat), .int .u32 (y.at_ : Nat), .int .u32 (y.prev : Nat), .int .u32 (y.next : Nat), .int .u32 (y.try_ : Nat), .int .u32 (y.state : Nat)] from rfl] at HM
    go_wp2_with (first
      | (refine wpList_load_row rfl _ _ rfl w.heap.size rfl 28 (jobCs j ao cap) (0, 0) _ Hh1.out Try.underlying28 rfl (show _ = some 15 by kernel_rfl) ?_)
      | (go_at_call 75; refine (HM.out _ HB2.out).mono ?_; rintro e w1 ⟨rfl, hB1⟩; have HB1 := Lib.hid hB1; clear hB1))
    go_meet
    exact ⟨rfl, w1.heap.size, rfl, wk_cells (x := y) (heap_alloc_new w1 _), HB1.out.alloc HB1.out.size _, HB1.out.size, by simp⟩
  case rest =>
    obtain ⟨rfl, b5, rfl, hy, hB3, hb5, hb6⟩ := hcut
    have HB3 := Lib.hid hB3
    have hx := (wk_cells Hh2.out).keep (hB3.block _ (by omega))
    have hjc : ∀ c v, (jobCs j ao cap)[c]? = some v → wc.cell? ⟨w.heap.size, c, none⟩ = some v := fun c v h => by
      rw [World.cell?_of_block (w := W2) (hB3.block w.heap.size (by omega)), cell_of_row W2 _ c _ _ (0, 0) Hh1.out]; exact h
    obtain ⟨x0, x1, x2, x3, x4, x5, x6⟩ := hx
    have j0 : wc.cell? ⟨w.heap.size, 0, none⟩ = some (.int .u8 (j.kind : Nat)) := hjc 0 _ rfl
    have j2 : wc.cell? ⟨w.heap.size, 2, none⟩ = some (.int .u32 (j.length : Nat)) := hjc 2 _ rfl
    have j9 : wc.cell? ⟨w.heap.size, 9, none⟩ = some (.int .u32 (j.tries : Nat)) := hjc 9 _ rfl
    have HBw := Lib.hid (HB2.out.trans (hB3.mono (by omega)))
    have Hy := Lib.hid hy
    clear hB3 hjc d0 hy
    by_cases hs : x.step = 0
    · have hs1 : ((x.step : Int) == 0) = true := by rw [hs]; rfl
      have hs2 : (x.step == 0) = true := by rw [hs]; rfl
      cases is with
      | false =>
        go_wp2_with fail
        go_ret
        exact ⟨by rw [Hr.out]; rfl, HBw.out⟩
      | true =>
        have l1 : decide (j.length < x.step) = false := decide_eq_false (by omega)
        have l2 : decide ((j.length : Int) < (x.step : Int)) = false := decide_eq_false (by omega)
        by_cases ht : j.tries ≤ x.try_
        · have t1 : decide (j.tries ≤ x.try_) = true := decide_eq_true ht
          have t2 : decide ((j.tries : Int) ≤ (x.try_ : Int)) = true := decide_eq_true (by omega)
          have hv : r = false := by rw [Hr.out]; simp [ht]
          go_wp2_with fail
          go_ret
          exact ⟨by rw [hv]; rfl, HBw.out⟩
        · have t1 : decide (j.tries ≤ x.try_) = false := decide_eq_false ht
          have t2 : decide ((j.tries : Int) ≤ (x.try_ : Int)) = false := decide_eq_false (by omega)
          have hv : r = decide (x = y) := by rw [Hr.out]; simp [ht, hs]
          have Hv := Lib.hid hv
          clear hv hs
          go_wp2_with fail
          clear hs1 hs2 l1 l2 t1 t2
          have heq := eq_numbers x y
          obtain ⟨y0, y1, y2, y3, y4, y5, y6⟩ := Hy.out
          have HX := Lib.hid (fun W => (show Calls Try.prog 76 #[.agg #[.int .u32 (x.id : Nat), .int .u32 (x.step : Nat), .int .u32 (x.at_ : Nat), .int .u32 (x.prev : Nat), .int .u32 (x.next : Nat), .int .u32 (x.try_ : Nat), .int .u32 (x.state : Nat)]] W (RetB (.agg (wkCs x)) W) from apart_any x W))
          have HY := Lib.hid (fun W => (show Calls Try.prog 76 #[.agg #[.int .u32 (y.id : Nat), .int .u32 (y.step : Nat), .int .u32 (y.at_ : Nat), .int .u32 (y.prev : Nat), .int .u32 (y.next : Nat), .int .u32 (y.try_ : Nat), .int .u32 (y.state : Nat)]] W (RetB (.agg (wkCs y)) W) from apart_any y W))
          have HP0 := Lib.hid (ss_keep (b1 := w.heap.size + 1) (b5 := b5) (x := x) (y := y) ⟨x0, x1, x2, x3, x4, x5, x6, y0, y1, y2, y3, y4, y5, y6⟩ (ext_drew wc))
          go_region_held3 (fun w' => w'.cell? ⟨w.heap.size + 1, 0, none⟩ = some (.int .u32 (x.id : Nat)) ∧ w'.cell? ⟨w.heap.size + 1, 1, none⟩ = some (.int .u32 (x.step : Nat)) ∧ w'.cell? ⟨w.heap.size + 1, 2, none⟩ = some (.int .u32 (x.at_ : Nat)) ∧ w'.cell? ⟨w.heap.size + 1, 3, none⟩ = some (.int .u32 (x.prev : Nat)) ∧ w'.cell? ⟨w.heap.size + 1, 4, none⟩ = some (.int .u32 (x.next : Nat)) ∧ w'.cell? ⟨w.heap.size + 1, 5, none⟩ = some (.int .u32 (x.try_ : Nat)) ∧ w'.cell? ⟨w.heap.size + 1, 6, none⟩ = some (.int .u32 (x.state : Nat)) ∧ w'.cell? ⟨b5, 0, none⟩ = some (.int .u32 (y.id : Nat)) ∧ w'.cell? ⟨b5, 1, none⟩ = some (.int .u32 (y.step : Nat)) ∧ w'.cell? ⟨b5, 2, none⟩ = some (.int .u32 (y.at_ : Nat)) ∧ w'.cell? ⟨b5, 3, none⟩ = some (.int .u32 (y.prev : Nat)) ∧ w'.cell? ⟨b5, 4, none⟩ = some (.int .u32 (y.next : Nat)) ∧ w'.cell? ⟨b5, 5, none⟩ = some (.int .u32 (y.try_ : Nat)) ∧ w'.cell? ⟨b5, 6, none⟩ = some (.int .u32 (y.state : Nat)))
            (first | exact HP0.out | exact HP1.out | exact HP2.out | exact ⟨x0, x1, x2, x3, x4, x5, x6, y0, y1, y2, y3, y4, y5, y6⟩)
            (first
              | (go_at_call 76; (first | (with_reducible refine (HX.out _).mono ?_) | (with_reducible refine (HY.out _).mono ?_)); rintro e w6 ⟨rfl, hB6⟩; first | (have HP2 := Lib.hid (ss_keep HP1.out hB6); have HB6' := Lib.hid (HBq.out.trans (hB6.mono HBq.out.size)); clear hB6) | (have HP1 := Lib.hid (ss_keep HP0.out hB6); have HBq := Lib.hid ((ext_drew wc).trans (hB6.mono (Nat.le_refl _))); clear hB6))
              | fail "no arm")
          all_goals
            go_wp2_with fail
            go_ret
            exact ⟨by rw [Hv.out]; rfl, HBw.out.trans (HB6'.out.mono HBw.out.size)⟩
    · go_wp2_with fail
      all_goals go_ret
      all_goals refine ⟨?_, HBw.out⟩
      all_goals
        rw [Hr.out]
        clear HM Hr HB3 HBw Hy x0 x1 x2 x3 x4 x5 x6 j0 j2 j9 hb5 hb6 HB2 hz2 Hh1 Hh2 Hx
        refine congrArg Ending.returned (congrArg Value.bool (Bool.eq_iff_iff.2 ?_))
        cases is
        all_goals try simp only [beq_iff_eq, bne_iff_ne, beq_eq_false_iff_ne, bne_eq_false_iff_eq, Bool.not_eq_true', Bool.not_eq_false', Bool.not_true, Bool.not_false, ne_eq, Bool.and_eq_true, Bool.or_eq_true, Bool.or_eq_false_iff, decide_eq_true_eq, decide_eq_false_iff_not, Bool.false_eq_true, Bool.true_eq_false, false_or, true_or, if_true, if_false, iff_self, false_iff, iff_false, not_true, not_false_iff] at *
        all_goals try omega
        all_goals (repeat' split)
        all_goals try simp only [beq_iff_eq, bne_iff_ne, ne_eq, Bool.and_eq_true, Bool.or_eq_true, decide_eq_true_eq, Bool.false_eq_true, iff_false, not_false_iff]
        all_goals omega
end Go.Proofs.Ytlgnpogmgpgdaaa
