/- A mover's method: lost. -/
import Derived.Test.YtcklfffeimnfeaaGreatStepM3
namespace Go.Proofs.YtcklfffeimnfeaaGreat
set_option linter.unusedSimpArgs false
set_option linter.unusedVariables false
set_option maxRecDepth 100000
open Go.RowKit

set_option maxHeartbeats 3200000 in
set_option maxRecDepth 100000 in
theorem mlost_any (g : Nat) (x : WkD) (hx : WkOk x) (j : JobD) (hj : JobOk j) (ht : x.try_ < j.tries) (w : World) (h : MvS g x j w) :
    Calls Tryz.prog 55 #[.pointer (some ⟨g, 0, none⟩)] w (LostRet g (.tuple #[.agg (wkCs (lostM j x).1), .int .u8 ((lostM j x).2 : Nat)]) w) := by
  have hgl := h.lt
  have htr := hj.tries
  obtain ⟨W1, hW1⟩ : ∃ W1, w.alloc (.cells wkZ 44) = W1 := ⟨_, rfl⟩
  have hz1 : W1.heap.size = w.heap.size + 1 := by rw [← hW1]; simp
  have HB1 := Lib.hid (show Below w.heap.size w W1 by rw [← hW1]; exact ext_alloc _ _)
  have Hh1 := Lib.hid (show W1.heap[w.heap.size]? = some (.cells wkZ 44 (0, 0)) by rw [← hW1]; exact heap_alloc_new _ _)
  obtain ⟨d0, d1, d2, d3, d4, d5, d6, _, _, _, _, _, _, d16, df⟩ := h.ext (show Below w.heap.size w W1 by rw [← hW1]; exact ext_alloc _ _)
  have f4 := df 4
  have f5 := df 5
  have f6 := df 6
  have hgn : ¬ g = w.heap.size := by omega
  have hgn' : ¬ w.heap.size = g := by omega
  have ht1 : IntKind.u32.wrap ((x.try_ : Int) + 1) = (x.try_ : Int) + 1 := IntWalk.u32_in _ (by omega)
  unfold wkZ at hW1
  clear h df hx hj
  by_cases he : x.try_ + 1 = j.tries
  · have hv : lostM j x = (x, 0) := by unfold lostM; rw [if_pos he]
    have l1 : ((x.try_ : Int) + 1 == (j.tries : Int)) = true := beq_iff_eq.2 (by omega)
    rw [hv]
    clear hv he
    generalize j.tries = tr at *
    go_enter Tryz.func55, Tryz.ntmps55
    go_upto_region 1 with fail
    go_quiet (fail)
    clear ht1
    have HZ := Lib.hid (show (W1.drewN nq).heap[w.heap.size]? = some (.cells wkZ 44 (0, 0)) from Hh1.out)
    go_wp2_with (refine wpList_store_row rfl _ _ _ rfl rfl rfl HZ.out rfl (show _ = some 7 by kernel_rfl) (by simp [Value.oneCell']) ?_; intro w5 hg5 ho5; have Hg5 := Lib.hid hg5; have Ho5 := Lib.hid ho5; clear hg5 ho5)
    refine bodyPost_ret (results_row_tmp rfl _ _ w.heap.size 44 _ (0, 0) _ rfl Hg5.out Tryz.underlying44 rfl (show _ = some 7 by kernel_rfl)) rfl ⟨rfl, (Only.of_below (fp := fun k => k = g) (below_drewN HB1.out nq)).trans Ho5.out (fun i hi e => by omega)⟩
  · have hv : lostM j x = (⟨x.id, x.step, x.at_, x.prev, 0, x.try_ + 1, 0⟩, 1) := by unfold lostM; rw [if_neg he]
    have l1 : ((x.try_ : Int) + 1 == (j.tries : Int)) = false := beq_eq_false_iff_ne.2 (by omega)
    rw [hv]
    clear hv he
    generalize j.tries = tr at *
    go_enter Tryz.func55, Tryz.ntmps55
    go_upto_region 1 with fail
    go_quiet (fail)
    clear ht1
    go_upto_region 4 with fail
    obtain ⟨W5, hW5⟩ : ∃ W5, ((((W1.drewN nq).setCell ⟨g, 5, none⟩ (.int .u32 ((x.try_ : Int) + 1))).setCell ⟨g, 4, none⟩ (.int .u32 0)).setCell ⟨g, 6, none⟩ (.int .u32 0)) = W5 := ⟨_, rfl⟩
    rw [hW5]
    have k0 : W5.cell? ⟨g, 0, none⟩ = some (.int .u32 (x.id : Nat)) := by rw [← hW5]; simp [go_sem, cell_set_ite, d0]
    have k1 : W5.cell? ⟨g, 1, none⟩ = some (.int .u32 (x.step : Nat)) := by rw [← hW5]; simp [go_sem, cell_set_ite, d1]
    have k2 : W5.cell? ⟨g, 2, none⟩ = some (.int .u32 (x.at_ : Nat)) := by rw [← hW5]; simp [go_sem, cell_set_ite, d2]
    have k3 : W5.cell? ⟨g, 3, none⟩ = some (.int .u32 (x.prev : Nat)) := by rw [← hW5]; simp [go_sem, cell_set_ite, d3]
    have k4 : W5.cell? ⟨g, 4, none⟩ = some (.int .u32 0) := by rw [← hW5]; simp [go_sem, cell_set_ite, d4]
    have k5 : W5.cell? ⟨g, 5, none⟩ = some (.int .u32 ((x.try_ : Int) + 1)) := by rw [← hW5]; simp [go_sem, cell_set_ite, d5]
    have k6 : W5.cell? ⟨g, 6, none⟩ = some (.int .u32 0) := by rw [← hW5]; simp [go_sem, cell_set_ite, d6]
    have HZ := Lib.hid (show W5.heap[w.heap.size]? = some (.cells wkZ 44 (0, 0)) by
      rw [← hW5]
      exact (Below.heap_setCell _ _ _ _ hgn').trans ((Below.heap_setCell _ _ _ _ hgn').trans ((Below.heap_setCell _ _ _ _ hgn').trans (show (W1.drewN _).heap[w.heap.size]? = some (.cells wkZ 44 (0, 0)) from Hh1.out))))
    have HO5 := Lib.hid (show Only (fun k => k = g) w W5 by
      rw [← hW5]
      exact (((Only.of_below (fp := fun k => k = g) (below_drewN HB1.out nq)).setCell (fun _ => rfl) _).setCell (fun _ => rfl) _).setCell (fun _ => rfl) _)
    clear hW5 d0 d1 d2 d3 d4 d5 d6 d16 f4 f5 f6 l1 hgn hgn' hW1
    go_wp2_with (refine wpList_store_row rfl _ _ _ rfl rfl rfl HZ.out rfl (show _ = some 7 by kernel_rfl) (by simp [Value.oneCell']) ?_; intro w5 hg5 ho5; have Hg5 := Lib.hid hg5; have Ho5 := Lib.hid ho5; clear hg5 ho5)
    refine bodyPost_ret (results_row_tmp rfl _ _ w.heap.size 44 _ (0, 0) _ rfl Hg5.out Tryz.underlying44 rfl (show _ = some 7 by kernel_rfl)) rfl ⟨rfl, HO5.out.trans Ho5.out (fun i hi e => by omega)⟩
end Go.Proofs.YtcklfffeimnfeaaGreat
