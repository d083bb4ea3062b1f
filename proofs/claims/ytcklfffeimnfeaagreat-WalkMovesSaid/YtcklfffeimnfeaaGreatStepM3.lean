/- A mover's methods: steps, lost. -/
import Derived.Test.YtcklfffeimnfeaaGreatBx14
import Derived.Test.YtcklfffeimnfeaaGreatBx16
namespace Go.Proofs.YtcklfffeimnfeaaGreat
set_option linter.unusedSimpArgs false
set_option linter.unusedVariables false
set_option maxRecDepth 100000
open Go.RowKit

def wkZ : Array Value := #[.int .u32 0, .int .u32 0, .int .u32 0, .int .u32 0, .int .u32 0, .int .u32 0, .int .u32 0]
def stepsV (j : JobD) (x : WkD) (tv : Nat) : Value := .tuple #[.agg (wkCs (stepsM j x tv).1), .int .u8 2]
def LostRet (g : Nat) (v : Value) (w : World) (e : Ending) (w' : World) : Prop := e = .returned v ∧ Only (fun k => k = g) w w'
set_option maxHeartbeats 3200000 in
set_option maxRecDepth 100000 in
theorem msteps_any (g : Nat) (x : WkD) (j : JobD) (tv : Nat) (w : World) (h : MvS g x j w) :
    Calls Tryz.prog 49 #[.pointer (some ⟨g, 0, none⟩), .int .u32 (tv : Nat)] w (RetB (stepsV j x tv) w) := by
  have hgl := h.lt
  have hv : stepsV j x tv = .tuple #[.agg #[.int .u32 (x.id : Nat), .int .u32 (((x.step + 1) % 4294967296 : Nat) : Nat), .int .u32 (tv : Nat), .int .u32 (if j.kind = 2 then x.at_ else 0 : Nat), .int .u32 0, .int .u32 0, .int .u32 0], .int .u8 2] := rfl
  obtain ⟨W1, hW1⟩ : ∃ W1, w.alloc (.cells wkZ 44) = W1 := ⟨_, rfl⟩
  have hz1 : W1.heap.size = w.heap.size + 1 := by rw [← hW1]; simp
  have HB1 := Lib.hid (show Below w.heap.size w W1 by rw [← hW1]; exact ext_alloc _ _)
  have Hh1 := Lib.hid (show W1.heap[w.heap.size]? = some (.cells wkZ 44 (0, 0)) by rw [← hW1]; exact heap_alloc_new _ _)
  have HM := Lib.hid (show MvS g x j W1 from h.ext (by rw [← hW1]; exact ext_alloc _ _))
  have hs1 : IntKind.u32.wrap ((x.step : Int) + 1) = (((x.step + 1) % 4294967296 : Nat) : Int) := by simp [IntKind.wrap, IntKind.bits, IntKind.signed]
  have Hs1 := Lib.hid hs1
  have Hv := Lib.hid hv
  have HK := Lib.hid (fun (W : World) (hk : W.heap[g]? = W1.heap[g]?) => HM.out.keep hk)
  clear hs1 hv
  have e0 := (HM.out.ext (ext_drew W1)).c0
  have e1 := (HM.out.ext (ext_drew W1)).c1
  unfold wkZ at hW1
  clear h
  generalize (x.step + 1) % 4294967296 = s1 at *
  go_enter Tryz.func49, Tryz.ntmps49
  go_upto_region 1 with fail
  clear hW1
  have hs1 := Hs1.out
  have hgn : ¬ g = w.heap.size + 1 := by omega
  go_region_held3 (fun w' => w'.cell? ⟨g, 0, none⟩ = some (.int .u32 (x.id : Nat)) ∧ w'.cell? ⟨g, 1, none⟩ = some (.int .u32 (x.step : Nat)))
    (first | exact ⟨e0, e1⟩ | exact ⟨(HM.out.ext (ext_alloc W1 _).drew).c0, (HM.out.ext (ext_alloc W1 _).drew).c1⟩)
    (fail "no arm")
  clear hs1 e0 e1
  obtain ⟨W2, hW2⟩ : ∃ W2, (W1.alloc (.cells #[.int .u32 (x.id : Nat), .int .u32 (s1 : Nat), .int .u32 (tv : Nat), .int .u32 0, .int .u32 0, .int .u32 0, .int .u32 0] 44)).drew = W2 := ⟨_, rfl⟩
  rw [hW2]
  have hB2 : Below W1.heap.size W1 W2 := by rw [← hW2]; exact (ext_alloc W1 _).drew
  have hz2 : w.heap.size + 2 ≤ W2.heap.size := by rw [← hW2]; simp [World.drew]; omega
  have Hr2 := Lib.hid (show W2.heap[w.heap.size + 1]? = some (.cells #[.int .u32 (x.id : Nat), .int .u32 (s1 : Nat), .int .u32 (tv : Nat), .int .u32 0, .int .u32 0, .int .u32 0, .int .u32 0] 44 (0, 0)) by rw [← hW2, ← hz1]; exact heap_alloc_new W1 _)
  have HZ2 := Lib.hid ((hB2.block w.heap.size (by omega)).trans Hh1.out)
  have HM2 := Lib.hid (HM.out.ext hB2)
  have HB2 := Lib.hid (HB1.out.trans (hB2.mono HB1.out.size))
  clear hW2 hB2
  have e7 := HM2.out.c7
  by_cases hk : j.kind = 2
  · have k1 : ((j.kind : Int) == 2) = true := by rw [hk]; rfl
    have k1' : (j.kind == 2) = true := by rw [hk]; rfl
    rw [if_pos hk] at Hv
    have e2 := HM2.out.c2
    have q3 : W2.cell? ⟨w.heap.size + 1, 3, none⟩ = some (.int .u32 0) := (cell_of_row W2 _ 3 _ _ (0, 0) Hr2.out)
    have f3 : W2.frozen? ⟨w.heap.size + 1, 3, none⟩ = false := frozen_of_row W2 _ 3 _ _ Hr2.out
    clear hk
    generalize j.kind = kd at *
    have HR := Lib.hid (show (W2.setCell ⟨w.heap.size + 1, 3, none⟩ (.int .u32 (x.at_ : Nat))).heap[w.heap.size + 1]? = some (.cells #[.int .u32 (x.id : Nat), .int .u32 (s1 : Nat), .int .u32 (tv : Nat), .int .u32 (x.at_ : Nat), .int .u32 0, .int .u32 0, .int .u32 0] 44 (0, 0)) from heap_setCells_in (w.heap.size + 1) 44 (0, 0) [.int .u32 (x.at_ : Nat)] 3 W2 _ Hr2.out)
    have HZ := Lib.hid (show (W2.setCell ⟨w.heap.size + 1, 3, none⟩ (.int .u32 (x.at_ : Nat))).heap[w.heap.size]? = some (.cells wkZ 44 (0, 0)) from (Below.heap_setCell _ _ _ _ (by simp)).trans HZ2.out)
    have HBx := Lib.hid (HB2.out.setCell (p := ⟨w.heap.size + 1, 3, none⟩) (by simp) (.int .u32 (x.at_ : Nat)))
    go_wp2_with (first
      | (refine wpList_load_row rfl _ _ rfl (w.heap.size + 1) rfl 44 #[.int .u32 (x.id : Nat), .int .u32 (s1 : Nat), .int .u32 (tv : Nat), .int .u32 (x.at_ : Nat), .int .u32 0, .int .u32 0, .int .u32 0] (0, 0) _ HR.out Tryz.underlying44 rfl (show _ = some 7 by kernel_rfl) ?_)
      | (refine wpList_store_row rfl _ _ _ rfl rfl rfl HZ.out rfl (show _ = some 7 by kernel_rfl) (by simp [Value.oneCell']) ?_; intro w5 hg5 ho5; have Hg5 := Lib.hid hg5; have Ho5 := Lib.hid ho5; clear hg5 ho5))
    refine bodyPost_ret (results_row_tmp rfl _ _ w.heap.size 44 _ (0, 0) _ rfl Hg5.out Tryz.underlying44 rfl (show _ = some 7 by kernel_rfl)) rfl ⟨?_, HBx.out.trans (Ho5.out.below HBx.out.size (fun k hk e => by omega))⟩
    rw [Hv.out]
    rfl
  · have k1 : ((j.kind : Int) == 2) = false := beq_eq_false_iff_ne.2 (by omega)
    have k1' : (j.kind == 2) = false := beq_eq_false_iff_ne.2 hk
    rw [if_neg hk] at Hv
    clear hk
    generalize j.kind = kd at *
    have HR := Lib.hid Hr2.out
    have HZ := Lib.hid HZ2.out
    have HBx := Lib.hid HB2.out
    go_wp2_with (first
      | (refine wpList_load_row rfl _ _ rfl (w.heap.size + 1) rfl 44 #[.int .u32 (x.id : Nat), .int .u32 (s1 : Nat), .int .u32 (tv : Nat), .int .u32 0, .int .u32 0, .int .u32 0, .int .u32 0] (0, 0) _ HR.out Tryz.underlying44 rfl (show _ = some 7 by kernel_rfl) ?_)
      | (refine wpList_store_row rfl _ _ _ rfl rfl rfl HZ.out rfl (show _ = some 7 by kernel_rfl) (by simp [Value.oneCell']) ?_; intro w5 hg5 ho5; have Hg5 := Lib.hid hg5; have Ho5 := Lib.hid ho5; clear hg5 ho5))
    refine bodyPost_ret (results_row_tmp rfl _ _ w.heap.size 44 _ (0, 0) _ rfl Hg5.out Tryz.underlying44 rfl (show _ = some 7 by kernel_rfl)) rfl ⟨?_, HBx.out.trans (Ho5.out.below HBx.out.size (fun k hk e => by omega))⟩
    rw [Hv.out]
    rfl
end Go.Proofs.YtcklfffeimnfeaaGreat
