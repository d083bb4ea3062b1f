/- palmerref21.Test, .Pick, palmerref22.accepts. -/
import Derived.Test.YtcklfffeimnfeaaGreatRefPickW
import Derived.Test.YtcklfffeimnfeaaGreatBx14
import Derived.Test.YtcklfffeimnfeaaGreatBx22
set_option maxRecDepth 100000
set_option maxHeartbeats 12800000
set_option linter.unusedSimpArgs false
set_option linter.unusedVariables false
namespace Go.Proofs.YtcklfffeimnfeaaGreat
open Go.RowKit

theorem rbelow_nat (s k t a n : Nat) (hn : n < 18446744073709551616) (w : World) :
    Calls Tryz.prog 117 #[.agg #[.int .u64 (s : Nat), .int .u64 (k : Nat), .int .u64 (t : Nat), .int .u64 (a : Nat)], .int .u64 (n : Nat)] w (RetB (.int .u64 ((belowZ (drawZ s k t a) n).toNat : Nat)) w) := by
  have h := rbelow_any s k t a n w (by omega) (by omega)
  have h0 : 0 ≤ belowZ (drawZ s k t a) n := by
    rcases Nat.eq_zero_or_pos n with h0 | h0
    · subst h0; unfold belowZ; simp
    · exact (belowZ_lt _ _ (by omega)).1
  rw [← Int.toNat_of_nonneg h0] at h
  exact h
theorem rtest21_any (j : JobD) (so : Option Addr) (sc : Nat) (x : WkD) (hid : x.id < 4294967296) (hst : x.step < 4294967296) (t n : Nat) (ht : t < 4294967296) (hn : n < 18446744073709551616) (w : World) :
    Calls Tryz.prog 73 #[.agg (jobCs j so sc), .agg (wkCs x), .int .u32 (t : Nat), .int .u64 (n : Nat)] w (RetB (.int .u64 (drwN j x (2 * t) n : Nat)) w) := by
  have HB := Lib.hid (fun W => rbelow_nat j.seed x.id x.step (2 * t) n hn W)
  unfold drwN
  obtain ⟨r, hr⟩ : ∃ r, (belowZ (drawZ j.seed x.id x.step ((2 * t : Nat) : Int)) n).toNat = r := ⟨_, rfl⟩
  rw [hr] at HB ⊢
  clear hr
  obtain ⟨a0, ha0⟩ : ∃ a, 2 * t = a := ⟨_, rfl⟩
  have ht0 : 2 * (t : Int) = (a0 : Int) := by omega
  have ht1 : a0 ≤ 8589934592 := by omega
  obtain ⟨a1, ha1⟩ : ∃ a, 2 * t = a := ⟨_, rfl⟩
  rw [ha1] at HB
  rw [ha0] at ha1
  subst ha1
  obtain ⟨W2, hW2⟩ : ∃ W2, (w.alloc (.cells (jobCs j so sc) 29)).alloc (.cells (wkCs x) 44) = W2 := ⟨_, rfl⟩
  have B2 := Lib.hid (show Below w.heap.size w W2 by rw [← hW2]; exact (ext_alloc w _).alloc (by simp) _)
  have hj2 : W2.heap[w.heap.size]? = some (.cells (jobCs j so sc) 29 (0, 0)) := by rw [← hW2]; exact heap_alloc2_old _ _ _
  have hx2 : W2.heap[w.heap.size + 1]? = some (.cells (wkCs x) 44 (0, 0)) := by rw [← hW2]; exact heap_alloc2_new _ _ _
  have c1 : W2.cell? ⟨w.heap.size, 1, none⟩ = some (.int .u64 (j.seed : Nat)) := cell_of_row W2 _ 1 _ _ (0, 0) hj2
  have c2 : W2.cell? ⟨w.heap.size + 1, 0, none⟩ = some (.int .u32 (x.id : Nat)) := cell_of_row W2 _ 0 _ _ (0, 0) hx2
  have c3 : W2.cell? ⟨w.heap.size + 1, 1, none⟩ = some (.int .u32 (x.step : Nat)) := cell_of_row W2 _ 1 _ _ (0, 0) hx2
  have HW2 := Lib.hid hW2
  clear hW2 hj2 hx2
  generalize jobCs j so sc = jc at *
  generalize wkCs x = xc at *
  generalize j.seed = sd at *
  generalize x.id = xi at *
  generalize x.step = xs at *
  have u1 : IntKind.u64.wrap (t : Int) = (t : Int) := IntWalk.u64_in _ (by omega)
  have u2 : IntKind.u64.wrap (xi : Int) = (xi : Int) := IntWalk.u64_in _ (by omega)
  have u3 : IntKind.u64.wrap (xs : Int) = (xs : Int) := IntWalk.u64_in _ (by omega)
  go_enter Tryz.func73, Tryz.ntmps73
  go_upto_region 1 with fail
  rw [HW2.out]
  go_wp2_with (go_at_call 117; (with_reducible refine (HB.out _).mono ?_); rintro e w3 ⟨rfl, hB⟩; have B3 := Lib.hid (B2.out.trans (hB.mono B2.out.size)); clear hB)
  go_ret
  exact ⟨rfl, B3.out⟩
theorem rpick21_any (j : JobD) (so : Option Addr) (sc : Nat) (x : WkD) (hid : x.id < 4294967296) (hst : x.step < 4294967296) (t n : Nat) (ht : t < 4294967296) (hn : n < 18446744073709551616) (w : World) :
    Calls Tryz.prog 74 #[.agg (jobCs j so sc), .agg (wkCs x), .int .u32 (t : Nat), .int .u64 (n : Nat)] w (RetB (.int .u64 (drwN j x (2 * t + 1) n : Nat)) w) := by
  have HB := Lib.hid (fun W => rbelow_nat j.seed x.id x.step (2 * t + 1) n hn W)
  unfold drwN
  obtain ⟨r, hr⟩ : ∃ r, (belowZ (drawZ j.seed x.id x.step ((2 * t + 1 : Nat) : Int)) n).toNat = r := ⟨_, rfl⟩
  rw [hr] at HB ⊢
  clear hr
  obtain ⟨a0, ha0⟩ : ∃ a, 2 * t = a := ⟨_, rfl⟩
  have ht0 : 2 * (t : Int) = (a0 : Int) := by omega
  have ht1 : a0 ≤ 8589934592 := by omega
  obtain ⟨a1, ha1⟩ : ∃ a, 2 * t + 1 = a := ⟨_, rfl⟩
  rw [ha1] at HB
  rw [ha0] at ha1
  have ht2 : (a0 : Int) + 1 = (a1 : Int) := by omega
  obtain ⟨W2, hW2⟩ : ∃ W2, (w.alloc (.cells (jobCs j so sc) 29)).alloc (.cells (wkCs x) 44) = W2 := ⟨_, rfl⟩
  have B2 := Lib.hid (show Below w.heap.size w W2 by rw [← hW2]; exact (ext_alloc w _).alloc (by simp) _)
  have hj2 : W2.heap[w.heap.size]? = some (.cells (jobCs j so sc) 29 (0, 0)) := by rw [← hW2]; exact heap_alloc2_old _ _ _
  have hx2 : W2.heap[w.heap.size + 1]? = some (.cells (wkCs x) 44 (0, 0)) := by rw [← hW2]; exact heap_alloc2_new _ _ _
  have c1 : W2.cell? ⟨w.heap.size, 1, none⟩ = some (.int .u64 (j.seed : Nat)) := cell_of_row W2 _ 1 _ _ (0, 0) hj2
  have c2 : W2.cell? ⟨w.heap.size + 1, 0, none⟩ = some (.int .u32 (x.id : Nat)) := cell_of_row W2 _ 0 _ _ (0, 0) hx2
  have c3 : W2.cell? ⟨w.heap.size + 1, 1, none⟩ = some (.int .u32 (x.step : Nat)) := cell_of_row W2 _ 1 _ _ (0, 0) hx2
  have HW2 := Lib.hid hW2
  clear hW2 hj2 hx2
  generalize jobCs j so sc = jc at *
  generalize wkCs x = xc at *
  generalize j.seed = sd at *
  generalize x.id = xi at *
  generalize x.step = xs at *
  have u1 : IntKind.u64.wrap (t : Int) = (t : Int) := IntWalk.u64_in _ (by omega)
  have u2 : IntKind.u64.wrap (xi : Int) = (xi : Int) := IntWalk.u64_in _ (by omega)
  have u3 : IntKind.u64.wrap (xs : Int) = (xs : Int) := IntWalk.u64_in _ (by omega)
  go_enter Tryz.func74, Tryz.ntmps74
  go_upto_region 1 with fail
  rw [HW2.out]
  go_wp2_with (go_at_call 117; (with_reducible refine (HB.out _).mono ?_); rintro e w3 ⟨rfl, hB⟩; have B3 := Lib.hid (B2.out.trans (hB.mono B2.out.size)); clear hB)
  go_ret
  exact ⟨rfl, B3.out⟩
theorem raccepts_any (R : List RowD) (ro : Option Addr) (rc : Nat) (rfp : Nat → Prop) (j : JobD) (hj : JobOk j) (so : Option Addr) (sc : Nat) (x : WkD) (hid : x.id < 4294967296) (hst : x.step < 4294967296) (av t tv : Nat) (ht : t < 4294967296) (w : World) (hl : R.length ≤ 100000) (ha : ∀ r ∈ R, r.2.length ≤ 100000) (hrd : RdS rowRep rfp w ro R) :
    Calls Tryz.prog 78 #[.slice ro R.length rc, .agg (jobCs j so sc), .agg (wkCs x), .int .u32 (av : Nat), .int .u32 (t : Nat), .int .u32 (tv : Nat)] w
      (RetB (.bool (decide (drwN j x (2 * t) (j.p * j.q) < weightN j.p j.q (tv == av) (near15M R av tv)))) w) := by
  have hp := hj.p
  have hq := hj.q
  have hpq : j.p * j.q ≤ 4294967295 * 4294967295 := Nat.mul_le_mul (by omega) (by omega)
  have hpqw : (j.p : Int) * (j.q : Int) = ((j.p * j.q : Nat) : Int) := by simp
  have HT := Lib.hid (fun W => rtest21_any j so sc x hid hst t (j.p * j.q) ht (by omega) W)
  have HN := Lib.hid (fun W (h : Below w.heap.size w W) => rnear15_any R av tv ro rc rfp W hl ha (hrd.ext h))
  have HW := Lib.hid (fun (b : Bool) W => rweight18_any j.p j.q hp hq (tv == av) b W)
  have HIj := Lib.hid (show (Tryz.prog.info? 29).map (·.size) = some (jobCs j so sc).size by kernel_rfl)
  have HIx := Lib.hid (show (Tryz.prog.info? 44).map (·.size) = some (wkCs x).size by kernel_rfl)
  obtain ⟨W2, hW2⟩ : ∃ W2, (w.alloc (.cells (jobCs j so sc) 29)).alloc (.cells (wkCs x) 44) = W2 := ⟨_, rfl⟩
  have B2 := Lib.hid (show Below w.heap.size w W2 by rw [← hW2]; exact (ext_alloc w _).alloc (by simp) _)
  have hj2 : W2.heap[w.heap.size]? = some (.cells (jobCs j so sc) 29 (0, 0)) := by rw [← hW2]; exact heap_alloc2_old _ _ _
  have hx2 : W2.heap[w.heap.size + 1]? = some (.cells (wkCs x) 44 (0, 0)) := by rw [← hW2]; exact heap_alloc2_new _ _ _
  have c7 : W2.cell? ⟨w.heap.size, 7, none⟩ = some (.int .u32 (j.p : Nat)) := cell_of_row W2 _ 7 _ _ (0, 0) hj2
  have c8 : W2.cell? ⟨w.heap.size, 8, none⟩ = some (.int .u32 (j.q : Nat)) := cell_of_row W2 _ 8 _ _ (0, 0) hj2
  have Hj2 := Lib.hid hj2
  have Hx2 := Lib.hid hx2
  have HW2 := Lib.hid hW2
  have hz2 : w.heap.size < W2.heap.size := by rw [← hW2]; simp; try omega
  clear hW2 hj2 hx2 hrd ha
  generalize jobCs j so sc = jc at *
  generalize wkCs x = xc at *
  generalize drwN j x (2 * t) (j.p * j.q) = u at *
  generalize near15M R av tv = nr at *
  obtain ⟨wt, hwt⟩ : ∃ wt, weightN j.p j.q (tv == av) nr = wt := ⟨_, rfl⟩
  have HWn := Lib.hid (fun W => hwt ▸ HW.out nr W)
  rw [hwt]
  clear hwt HW
  generalize j.p * j.q = pq at *
  generalize j.p = p at *
  generalize j.q = q at *
  have u1 : IntKind.u64.wrap (p : Int) = (p : Int) := IntWalk.u64_in _ (by omega)
  have u2 : IntKind.u64.wrap (q : Int) = (q : Int) := IntWalk.u64_in _ (by omega)
  have u3 : IntKind.u64.wrap ((p : Int) * (q : Int)) = (pq : Int) := by rw [hpqw]; exact IntWalk.u64_in _ (by omega)
  obtain ⟨bk, hbk⟩ : ∃ bk, (tv == av) = bk := ⟨_, rfl⟩
  have b1 : ((tv : Int) == (av : Int)) = bk := by rw [← hbk, Bool.eq_iff_iff]; simp only [beq_iff_eq]; omega
  rw [hbk] at HWn
  clear hbk
  go_enter Tryz.func78, Tryz.ntmps78
  go_upto_region 1 with fail
  rw [HW2.out]
  go_upto_region 2 with (first
    | (refine wpList_load_row rfl _ _ rfl w.heap.size rfl 29 jc (0, 0) _ Hj2.out Tryz.underlying29 rfl HIj.out ?_)
    | (refine wpList_load_row rfl _ _ rfl (w.heap.size + 1) rfl 44 xc (0, 0) _ Hx2.out Tryz.underlying44 rfl HIx.out ?_)
    | (go_at_call 73; (with_reducible refine (HT.out _).mono ?_); rintro e w3 ⟨rfl, hB⟩; have hz3 : w.heap.size < w3.heap.size := Nat.lt_of_lt_of_le hz2 hB.size; have d7 := ((bcell hB).1 w.heap.size 7 hz2).trans c7; have d8 := ((bcell hB).1 w.heap.size 8 hz2).trans c8; have B3 := Lib.hid (B2.out.trans (hB.mono B2.out.size)); clear hB))
  clear c7 c8 HT Hj2 Hx2
  have HP0 := Lib.hid (show (World.drew w3).cell? ⟨w.heap.size, 7, none⟩ = some (.int .u32 (p : Nat)) ∧ (World.drew w3).cell? ⟨w.heap.size, 8, none⟩ = some (.int .u32 (q : Nat)) from ⟨d7, d8⟩)
  have HKp := Lib.hid (fun W (hB : Below (World.drew w3).heap.size (World.drew w3) W) => (show W.cell? ⟨w.heap.size, 7, none⟩ = some (.int .u32 (p : Nat)) ∧ W.cell? ⟨w.heap.size, 8, none⟩ = some (.int .u32 (q : Nat)) from ⟨((bcell hB).1 w.heap.size 7 hz3).trans d7, ((bcell hB).1 w.heap.size 8 hz3).trans d8⟩))
  have BD := Lib.hid (show Below w.heap.size w (World.drew w3) from B3.out.trans ((ext_drew w3).mono B3.out.size))
  go_region_held3 (fun w' => w'.cell? ⟨w.heap.size, 7, none⟩ = some (.int .u32 (p : Nat)) ∧ w'.cell? ⟨w.heap.size, 8, none⟩ = some (.int .u32 (q : Nat)))
    (first | exact ⟨d7, d8⟩ | exact HP0.out | exact HP1.out)
    (first
      | (go_at_call 122; (with_reducible refine (HN.out _ BD.out).mono ?_); rintro e w4 ⟨rfl, hB⟩; have HP1 := Lib.hid (HKp.out _ hB); have B4 := Lib.hid (BD.out.trans (hB.mono BD.out.size)); clear hB)
      | (go_at_call 121; (with_reducible refine (HWn.out _).mono ?_); rintro e w5 ⟨rfl, rfl⟩)
      | fail "no arm")
  go_wp2_with fail
  go_ret
  exact ⟨by simp, B4.out⟩
end Go.Proofs.YtcklfffeimnfeaaGreat
