/- A mover's methods; bias. -/
import Derived.Test.YtlgnpogmgpgdaaaStepPlain
import Derived.Test.YtlgnpogmgpgdaaaJobNumsP
import Derived.Deep.RegionHeld
import Derived.StillTailTactics
namespace Go.Proofs.Ytlgnpogmgpgdaaa
set_option linter.unusedSimpArgs false
set_option linter.unusedVariables false
set_option maxRecDepth 100000
open Go.RowKit

section
variable {P : Program} {ops : Array Oper} {S : World → Prop} {Q : Exit → Act → World → Prop}
theorem wpOp_runW {i : Nat} {o : Oper} {K : Act → World → Prop} {a : Act} {w : World} (ho : ops[i]? = some o) (hw : Region.wanted o (yielded ops a.tmps) = true)
    (h : ∀ K' : Act → World → Prop, (∀ a w, K a w → K' a w) → o.wp P a w K' Q) : wpOp P ops Q i K a w := by
  unfold wpOp
  rw [ho]
  simp only [hw, if_true]
  exact Or.inl (h K fun _ _ h => h)
end
/-! ### bias -/
set_option maxHeartbeats 1600000 in
theorem scale_any (p q : Nat) (hp : p < 4294967296) (hq : q < 4294967296) (w : World) : Calls Try.prog 83 #[.int .u32 (p : Nat), .int .u32 (q : Nat)] w fun e w' => e = .returned (.int .u64 ((p * q : Nat) : Nat)) ∧ w' = w := by
  have h : p * q ≤ 4294967295 * 4294967295 := Nat.mul_le_mul (by omega) (by omega)
  have hm : IntKind.u64.wrap ((p : Int) * (q : Int)) = ((p * q : Nat) : Int) := by
    rw [show (p : Int) * (q : Int) = ((p * q : Nat) : Int) from by simp]
    exact IntWalk.u64_in _ (by omega)
  have Hm := Lib.hid hm
  clear h hm
  go_enter Try.func83, Try.ntmps83
  go_wp2_with fail
  go_ret
  refine ⟨?_, rfl⟩
  have := Hm.out
  first
    | (rw [this]; done)
    | (refine congrArg (fun n => Ending.returned (Value.int .u64 n)) ?_; simpa [IntKind.wrap, IntKind.bits, IntKind.signed] using this)
set_option maxHeartbeats 1600000 in
theorem weight_any (p q : Nat) (hp : p < 4294967296) (hq : q < 4294967296) (back near : Bool) (w : World) : Calls Try.prog 102 #[.int .u32 (p : Nat), .int .u32 (q : Nat), .bool back, .bool near] w fun e w' => e = .returned (.int .u64 (weightN p q back near : Nat)) ∧ w' = w := by
  have HS := Lib.hid (fun W => scale_any p q hp hq W)
  cases back
  · cases near
    · show Calls _ _ _ _ fun e w' => e = .returned (.int .u64 (p : Nat)) ∧ w' = w
      clear HS
      go_enter Try.func102, Try.ntmps102
      go_wp2_with fail
      go_ret
      exact ⟨rfl, rfl⟩
    · show Calls _ _ _ _ fun e w' => e = .returned (.int .u64 ((p * q : Nat) : Nat)) ∧ w' = w
      generalize p * q = m at *
      go_enter Try.func102, Try.ntmps102
      go_wp2_with (go_at_call 83; refine (HS.out _).mono ?_; rintro e w1 ⟨rfl, rfl⟩)
      go_ret
      exact ⟨rfl, rfl⟩
  · show Calls _ _ _ _ fun e w' => e = .returned (.int .u64 (q : Nat)) ∧ w' = w
    clear HS
    go_enter Try.func102, Try.ntmps102
    go_wp2_with fail
    go_ret
    exact ⟨rfl, rfl⟩
set_option maxHeartbeats 1600000 in
theorem baccepts_any (p q : Nat) (hp : p < 4294967296) (hq : q < 4294967296) (back near : Bool) (u : Nat) (w : World) : Calls Try.prog 81 #[.int .u32 (p : Nat), .int .u32 (q : Nat), .bool back, .bool near, .int .u64 (u : Nat)] w fun e w' => e = .returned (.bool (decide (u < weightN p q back near))) ∧ w' = w := by
  have HW := Lib.hid (fun W => weight_any p q hp hq back near W)
  generalize weightN p q back near = m at *
  go_enter Try.func81, Try.ntmps81
  go_wp2_with (go_at_call 102; refine (HW.out _).mono ?_; rintro e w1 ⟨rfl, rfl⟩)
  go_ret
  exact ⟨by simp, rfl⟩
set_option maxHeartbeats 1600000 in
theorem bsure_any (p q : Nat) (hp : p < 4294967296) (hq : q < 4294967296) (back : Bool) (u : Nat) (a b : Bool) (ha : decide (u < weightN p q back true) = a) (hb : decide (u < weightN p q back false) = b) (w : World) : Calls Try.prog 85 #[.int .u32 (p : Nat), .int .u32 (q : Nat), .bool back, .int .u64 (u : Nat)] w fun e w' => e = .returned (.tuple #[.bool (a && b), .bool (a == b)]) ∧ w' = w := by
  have HA := Lib.hid (fun W => baccepts_any p q hp hq back true u W)
  have HB := Lib.hid (fun W => baccepts_any p q hp hq back false u W)
  rw [ha] at HA
  rw [hb] at HB
  clear ha hb
  go_enter Try.func85, Try.ntmps85
  cases a <;> cases b
  all_goals
    go_wp2_with (first
      | (go_at_call 81; (with_reducible refine (HA.out _).mono ?_); rintro e w1 ⟨rfl, rfl⟩)
      | (go_at_call 81; (with_reducible refine (HB.out _).mono ?_); rintro e w1 ⟨rfl, rfl⟩))
    go_ret2
    exact ⟨rfl, rfl⟩

/-! ### a mover -/
def mvCs (x : WkD) (j : JobD) (ao : Option Addr) (cap : Nat) : Array Value :=
  #[.int .u32 (x.id : Nat), .int .u32 (x.step : Nat), .int .u32 (x.at_ : Nat), .int .u32 (x.prev : Nat), .int .u32 (x.next : Nat), .int .u32 (x.try_ : Nat), .int .u32 (x.state : Nat),
    .int .u8 (j.kind : Nat), .int .u64 (j.seed : Nat), .int .u32 (j.length : Nat), .int .u32 (j.walks : Nat), .slice ao j.src.length cap, .int .u32 (j.stop : Nat), .int .u32 (j.od : Nat), .int .u32 (j.p : Nat), .int .u32 (j.q : Nat),
    .int .u32 (j.tries : Nat), .int .u32 (j.best : Nat), .int .u32 (j.bsh : Nat), .int .u32 (j.bro : Nat), .int .u32 (j.bpo : Nat), .int .u32 (j.bso : Nat)]
/-- the mover's cells that are read -/
structure MvS (g : Nat) (x : WkD) (j : JobD) (w : World) : Prop where
  c0 : w.cell? ⟨g, 0, none⟩ = some (.int .u32 (x.id : Nat))
  c1 : w.cell? ⟨g, 1, none⟩ = some (.int .u32 (x.step : Nat))
  c2 : w.cell? ⟨g, 2, none⟩ = some (.int .u32 (x.at_ : Nat))
  c3 : w.cell? ⟨g, 3, none⟩ = some (.int .u32 (x.prev : Nat))
  c4 : w.cell? ⟨g, 4, none⟩ = some (.int .u32 (x.next : Nat))
  c5 : w.cell? ⟨g, 5, none⟩ = some (.int .u32 (x.try_ : Nat))
  c6 : w.cell? ⟨g, 6, none⟩ = some (.int .u32 (x.state : Nat))
  c7 : w.cell? ⟨g, 7, none⟩ = some (.int .u8 (j.kind : Nat))
  c8 : w.cell? ⟨g, 8, none⟩ = some (.int .u64 (j.seed : Nat))
  c12 : w.cell? ⟨g, 12, none⟩ = some (.int .u32 (j.stop : Nat))
  c13 : w.cell? ⟨g, 13, none⟩ = some (.int .u32 (j.od : Nat))
  c14 : w.cell? ⟨g, 14, none⟩ = some (.int .u32 (j.p : Nat))
  c15 : w.cell? ⟨g, 15, none⟩ = some (.int .u32 (j.q : Nat))
  c16 : w.cell? ⟨g, 16, none⟩ = some (.int .u32 (j.tries : Nat))
  fr : ∀ i, w.frozen? ⟨g, i, none⟩ = false
theorem MvS.of {g : Nat} {x : WkD} {j : JobD} {ao : Option Addr} {cap : Nat} {t : TypeId} {w : World} (h : w.heap[g]? = some (.cells (mvCs x j ao cap) t (0, 0))) : MvS g x j w := by
  have hc := fun i => cell_of_row w g i (mvCs x j ao cap) t (0, 0) h
  exact ⟨hc 0, hc 1, hc 2, hc 3, hc 4, hc 5, hc 6, hc 7, hc 8, hc 12, hc 13, hc 14, hc 15, hc 16, fun i => frozen_of_row w g i _ t h⟩
theorem MvS.keep {g : Nat} {x : WkD} {j : JobD} {w w' : World} (h : MvS g x j w) (hk : w'.heap[g]? = w.heap[g]?) : MvS g x j w' := by
  have k := fun i => World.cell?_of_block (w := w) (w' := w') (a := ⟨g, i, none⟩) hk
  have f := fun i => World.frozen?_of_block (w := w) (w' := w') (a := ⟨g, i, none⟩) hk
  exact ⟨(k 0).trans h.c0, (k 1).trans h.c1, (k 2).trans h.c2, (k 3).trans h.c3, (k 4).trans h.c4, (k 5).trans h.c5, (k 6).trans h.c6, (k 7).trans h.c7, (k 8).trans h.c8, (k 12).trans h.c12, (k 13).trans h.c13, (k 14).trans h.c14, (k 15).trans h.c15, (k 16).trans h.c16, fun i => (f i).trans (h.fr i)⟩
theorem MvS.lt {g : Nat} {x : WkD} {j : JobD} {w : World} (h : MvS g x j w) : g < w.heap.size := block_lt_of_cell h.c0
theorem MvS.ext {g : Nat} {x : WkD} {j : JobD} {w w' : World} (h : MvS g x j w) (hB : Below w.heap.size w w') : MvS g x j w' := h.keep (hB.block g h.lt)

set_option maxHeartbeats 3200000 in
theorem tape_any (g : Nat) (x : WkD) (hx : WkOk x) (j : JobD) (t v : Nat) (ht : 2 * t + v < 18446744073709551616) (w : World) (h : MvS g x j w) :
    Calls Try.prog 51 #[.pointer (some ⟨g, 0, none⟩), .int .u64 (t : Nat), .int .u64 (v : Nat)] w (RetB (.agg #[.int .u64 (j.seed : Nat), .int .u64 (x.id : Nat), .int .u64 (x.step : Nat), .int .u64 ((2 * t + v : Nat) : Nat)]) w) := by
  obtain ⟨c0, c1, _, _, _, _, _, _, c8, _, _, _, _, _, _⟩ := h.ext (ext_alloc w (.cells #[.int .u64 0, .int .u64 0, .int .u64 0, .int .u64 0] 97))
  have hid := hx.id
  have hst := hx.step
  have hgl := h.lt
  have hgn : ¬ g = w.heap.size := by omega
  clear hx h
  generalize hw1 : w.alloc (.cells #[.int .u64 0, .int .u64 0, .int .u64 0, .int .u64 0] 97) = w1 at *
  have HB1 := Lib.hid (show Below w.heap.size w w1 by rw [← hw1]; exact ext_alloc _ _)
  have Hh1 := Lib.hid (show w1.heap[w.heap.size]? = some (.cells #[.int .u64 0, .int .u64 0, .int .u64 0, .int .u64 0] 97 (0, 0)) by rw [← hw1]; exact heap_alloc_new _ _)
  generalize j.seed = sd at *
  generalize x.id = i at *
  generalize x.step = s at *
  go_enter Try.func51, Try.ntmps51
  go_wp2_with fail
  try rw [hw1]
  have u1 : IntKind.u64.wrap (i : Int) = (i : Int) := IntWalk.u64_in _ (by omega)
  have u2 : IntKind.u64.wrap (s : Int) = (s : Int) := IntWalk.u64_in _ (by omega)
  have u3 : IntKind.u64.wrap (2 * (t : Int)) = 2 * (t : Int) := IntWalk.u64_in _ (by omega)
  have u4 : IntKind.u64.wrap (2 * (t : Int) + (v : Int)) = 2 * (t : Int) + (v : Int) := IntWalk.u64_in _ (by omega)
  refine wp_region_still_tail 22 (by kernel_rfl) (by kernel_rfl) ?_
  change wpStill _ _ (World.drew _) _ _ _
  simp only [List.take_succ_cons, List.take_zero, List.drop_succ_cons, List.drop_zero]
  repeat still_step
  refine wpStill_nil ?_
  change wpList _ _ _ _ _ (World.drew _)
  clear u1 u2 u3 u4 c0 c1 c8
  go_wp2_with (refine wpList_store_row rfl _ _ _ rfl rfl rfl (show (World.drew w1).heap[w.heap.size]? = _ from Hh1.out) rfl (show _ = some 4 by kernel_rfl) (by simp [Value.oneCell']) ?_; intro w3 hg3 ho3; have Hg3 := Lib.hid hg3; have Ho3 := Lib.hid ho3; clear hg3 ho3)
  refine bodyPost_ret (results_cell_row rfl _ _ w.heap.size 97 _ (0, 0) _ rfl Hg3.out Try.underlying97 rfl (show _ = some 4 by kernel_rfl)) rfl ⟨?_, HB1.out.drew.trans (Ho3.out.below HB1.out.size (fun k hk e => by omega))⟩
  simp
theorem below_nat (s k t a n : Nat) (hn : n < 18446744073709551616) (w : World) :
    Calls Try.prog 50 #[.agg #[.int .u64 (s : Nat), .int .u64 (k : Nat), .int .u64 (t : Nat), .int .u64 (a : Nat)], .int .u64 (n : Nat)] w (RetB (.int .u64 ((belowZ (drawZ s k t a) n).toNat : Nat)) w) := by
  have h := below_any s k t a n w (by omega) (by omega)
  have h0 : 0 ≤ belowZ (drawZ s k t a) n := by
    rcases Nat.eq_zero_or_pos n with h0 | h0
    · subst h0; unfold belowZ; simp
    · exact (belowZ_lt _ _ (by omega)).1
  rw [← Int.toNat_of_nonneg h0] at h
  exact h
set_option maxHeartbeats 3200000 in
theorem test_any (g : Nat) (x : WkD) (hx : WkOk x) (j : JobD) (t n : Nat) (ht : t < 4294967296) (hn : n < 18446744073709551616) (w : World) (h : MvS g x j w) :
    Calls Try.prog 82 #[.pointer (some ⟨g, 0, none⟩), .int .u32 (t : Nat), .int .u64 (n : Nat)] w (RetB (.int .u64 (drwN j x (2 * t) n : Nat)) w) := by
  have HT := Lib.hid (show Calls Try.prog 51 #[.pointer (some ⟨g, 0, none⟩), .int .u64 (t : Nat), .int .u64 0] w (RetB (.agg #[.int .u64 (j.seed : Nat), .int .u64 (x.id : Nat), .int .u64 (x.step : Nat), .int .u64 ((2 * t : Nat) : Nat)]) w) from tape_any g x hx j t 0 (by omega) w h)
  have HB := Lib.hid (fun W => below_nat j.seed x.id x.step (2 * t) n hn W)
  unfold drwN
  have u1 : IntKind.u64.wrap (t : Int) = (t : Int) := IntWalk.u64_in _ (by omega)
  clear h hx
  generalize (belowZ (drawZ j.seed x.id x.step ((2 * t : Nat) : Int)) n).toNat = r at *
  generalize j.seed = sd at *
  generalize x.id = i at *
  generalize x.step = s at *
  generalize 2 * t = tt at *
  go_enter Try.func82, Try.ntmps82
  go_wp2_with (first
    | (go_at_call 51; (with_reducible refine HT.out.mono ?_); rintro e w1 ⟨rfl, hB⟩; have B1 := Lib.hid hB; clear hB)
    | (go_at_call 50; (with_reducible refine (HB.out _).mono ?_); rintro e w2 ⟨rfl, hB⟩; have B2 := Lib.hid (B1.out.trans (hB.mono B1.out.size)); clear hB))
  go_ret
  exact ⟨rfl, B2.out⟩
def RstS (g kind stop od : Nat) (w : World) : Prop := w.cell? ⟨g, 7, none⟩ = some (.int .u8 (kind : Nat)) ∧ w.cell? ⟨g, 12, none⟩ = some (.int .u32 (stop : Nat)) ∧ w.cell? ⟨g, 13, none⟩ = some (.int .u32 (od : Nat))
set_option maxHeartbeats 3200000 in
set_option maxRecDepth 100000 in
theorem restarts_any (g : Nat) (x : WkD) (hx : WkOk x) (j : JobD) (hj : JobOk j) (w : World) (h : MvS g x j w) :
    Calls Try.prog 46 #[.pointer (some ⟨g, 0, none⟩)] w (RetB (.bool (restartsM j x)) w) := by
  have hod := hj.od
  have hsp := hj.stop
  by_cases hk : j.kind = 1
  · have k1 : ((j.kind : Int) == 1) = true := by rw [hk]; rfl
    have k1' : (j.kind == 1) = true := by rw [hk]; rfl
    have hr : restartsM j x = decide (drwN j x 0 j.od < j.stop) := by unfold restartsM; rw [decide_eq_true hk, Bool.true_and]
    have HT := Lib.hid (fun W (hB : Below w.heap.size w W) => test_any g x hx j 0 j.od (by omega) (by omega) W (h.ext hB))
    have Hr := Lib.hid hr
    have HS := Lib.hid (fun W (hB : Below w.heap.size w W) => (show RstS g j.kind j.stop j.od W from ⟨(h.ext hB).c7, (h.ext hB).c12, (h.ext hB).c13⟩))
    simp only [Nat.mul_zero] at HT
    generalize drwN j x 0 j.od = u at *
    clear hk hr h hx hj
    generalize j.kind = kd at *
    generalize j.stop = sp at *
    generalize j.od = od at *
    have u1 : IntKind.u64.wrap (od : Int) = (od : Int) := IntWalk.u64_in _ (by omega)
    have u2 : IntKind.u64.wrap (sp : Int) = (sp : Int) := IntWalk.u64_in _ (by omega)
    go_enter Try.func46, Try.ntmps46
    go_wp2_with fail
    refine wp_region_held (S := RstS g kd sp od) (by kernel_rfl) ?_
    have hS0 : RstS g kd sp od w.drew := HS.out _ (ext_drew w)
    change wpAnyH _ _ _ _ _ _ _ _ (World.drew _)
    refine wpAnyH_take (i := 0) (oi := ⟨some 3, _, _, _, _, _⟩) (v := ?_) rfl (by kernel_rfl) (by kernel_rfl) (by kernel_rfl) (fun _ _ _ h => h) (Or.inl ⟨by rfl, ?_⟩) hS0 ?_
    rotate_left
    · (intro w' hSw; obtain ⟨s7, s12, s13⟩ := hSw; go_simp; try (with_reducible rfl))
    simp only [Act.put, List.setIfInBounds_toArray, List.set_cons_zero, List.set_cons_succ]
    refine wpAnyH_take (i := 1) (oi := ⟨some 4, _, _, _, _, _⟩) (v := ?_) rfl (by kernel_rfl) (by kernel_rfl) (by kernel_rfl) (fun _ _ _ h => h) (Or.inl ⟨by rfl, ?_⟩) hS0 ?_
    rotate_left
    · (intro w' hSw; obtain ⟨s7, s12, s13⟩ := hSw; go_simp; try (with_reducible rfl))
    simp only [Act.put, List.setIfInBounds_toArray, List.set_cons_zero, List.set_cons_succ]
    refine wpAnyH_take (i := 2) (oi := ⟨some 5, _, _, _, _, _⟩) (v := ?_) rfl (by kernel_rfl) (by kernel_rfl) (by kernel_rfl) (fun _ _ _ h => h) (Or.inl ⟨by rfl, ?_⟩) hS0 ?_
    rotate_left
    · (intro w' hSw; obtain ⟨s7, s12, s13⟩ := hSw; go_simp; try (with_reducible rfl))
    simp only [Act.put, List.setIfInBounds_toArray, List.set_cons_zero, List.set_cons_succ]
    refine wpAnyH_take (i := 3) (oi := ⟨some 6, _, _, _, _, _⟩) (v := ?_) rfl (by kernel_rfl) (by kernel_rfl) (by kernel_rfl) (fun _ _ _ h => h) (Or.inl ⟨by rfl, ?_⟩) hS0 ?_
    rotate_left
    · (intro w' hSw; obtain ⟨s7, s12, s13⟩ := hSw; go_simp; try (with_reducible rfl))
    simp only [Act.put, List.setIfInBounds_toArray, List.set_cons_zero, List.set_cons_succ]
    refine wpAnyH_take (i := 4) (oi := ⟨some 7, _, _, _, _, _⟩) (v := ?_) rfl (by kernel_rfl) (by kernel_rfl) (by kernel_rfl) (fun _ _ _ h => h) (Or.inl ⟨by rfl, ?_⟩) hS0 ?_
    rotate_left
    · (intro w' hSw; obtain ⟨s7, s12, s13⟩ := hSw; go_simp; try (with_reducible rfl))
    simp only [Act.put, List.setIfInBounds_toArray, List.set_cons_zero, List.set_cons_succ]
    refine wpAnyH_take (i := 5) (oi := ⟨some 8, _, _, _, _, _⟩) (v := ?_) rfl (by kernel_rfl) (by kernel_rfl) (by kernel_rfl) (fun _ _ _ h => h) (Or.inl ⟨by rfl, ?_⟩) hS0 ?_
    rotate_left
    · (intro w' hSw; obtain ⟨s7, s12, s13⟩ := hSw; go_simp; try (with_reducible rfl))
    simp only [Act.put, List.setIfInBounds_toArray, List.set_cons_zero, List.set_cons_succ]
    refine wpAnyH_take (i := 6) (oi := ⟨some 9, _, _, _, _, _⟩) (v := ?_) rfl (by kernel_rfl) (by kernel_rfl) (by kernel_rfl) (fun _ _ _ h => h) (Or.inl ⟨by rfl, ?_⟩) hS0 ?_
    rotate_left
    · (intro w' hSw; obtain ⟨s7, s12, s13⟩ := hSw; go_simp; try (with_reducible rfl))
    simp only [Act.put, List.setIfInBounds_toArray, List.set_cons_zero, List.set_cons_succ]
    refine wpAnyH_take (i := 7) (oi := ⟨some 10, _, _, _, _, _⟩) (v := ?_) rfl (by kernel_rfl) (by kernel_rfl) (by kernel_rfl) (fun _ _ _ h => h) (Or.inl ⟨by rfl, ?_⟩) hS0 ?_
    rotate_left
    · (intro w' hSw; obtain ⟨s7, s12, s13⟩ := hSw; go_simp; try (with_reducible rfl))
    simp only [Act.put, List.setIfInBounds_toArray, List.set_cons_zero, List.set_cons_succ]
    refine wpAnyH_take (i := 8) (oi := ⟨some 11, _, _, _, _, _⟩) (v := ?_) rfl (by kernel_rfl) (by kernel_rfl) (by kernel_rfl) (fun _ _ _ h => h) (Or.inl ⟨by rfl, ?_⟩) hS0 ?_
    rotate_left
    · (intro w' hSw; obtain ⟨s7, s12, s13⟩ := hSw; go_simp; try (with_reducible rfl))
    simp only [Act.put, List.setIfInBounds_toArray, List.set_cons_zero, List.set_cons_succ]
    refine wpAnyH_take (i := 9) (oi := ⟨some 12, _, _, _, _, _⟩) (v := ?_) rfl (by kernel_rfl) (by kernel_rfl) (by kernel_rfl) (fun _ _ _ h => h) (Or.inl ⟨by rfl, ?_⟩) hS0 ?_
    rotate_left
    · (intro w' hSw; obtain ⟨s7, s12, s13⟩ := hSw; go_simp; try (with_reducible rfl))
    simp only [Act.put, List.setIfInBounds_toArray, List.set_cons_zero, List.set_cons_succ]
    refine wpAnyH_take (i := 10) (oi := ⟨some 13, _, _, _, _, _⟩) (v := ?_) rfl (by kernel_rfl) (by kernel_rfl) (by kernel_rfl) (fun _ _ _ h => h) (Or.inl ⟨by rfl, ?_⟩) hS0 ?_
    rotate_left
    · (intro w' hSw; obtain ⟨s7, s12, s13⟩ := hSw; go_simp; try (with_reducible rfl))
    simp only [Act.put, List.setIfInBounds_toArray, List.set_cons_zero, List.set_cons_succ]
    refine wpAnyH_take (i := 11) (oi := ⟨some 14, _, _, _, _, _⟩) (v := ?_) rfl (by kernel_rfl) (by kernel_rfl) (by kernel_rfl) (fun _ _ _ h => h) (Or.inl ⟨by rfl, ?_⟩) hS0 ?_
    rotate_left
    · (intro w' hSw; obtain ⟨s7, s12, s13⟩ := hSw; go_simp; try (with_reducible rfl))
    simp only [Act.put, List.setIfInBounds_toArray, List.set_cons_zero, List.set_cons_succ]
    refine wpAnyH_take (i := 12) (oi := ⟨some 15, _, _, _, _, _⟩) (v := ?_) rfl (by kernel_rfl) (by kernel_rfl) (by kernel_rfl) (fun _ _ _ h => h) (Or.inl ⟨by rfl, ?_⟩) hS0 ?_
    rotate_left
    · (intro w' hSw; obtain ⟨s7, s12, s13⟩ := hSw; go_simp; try (with_reducible rfl))
    simp only [Act.put, List.setIfInBounds_toArray, List.set_cons_zero, List.set_cons_succ]
    refine wpAnyH_take (i := 13) (oi := ⟨some 16, _, _, _, _, _⟩) (v := ?_) rfl (by kernel_rfl) (by kernel_rfl) (by kernel_rfl) (fun _ _ _ h => h) (Or.inl ⟨by rfl, ?_⟩) hS0 ?_
    rotate_left
    · (intro w' hSw; obtain ⟨s7, s12, s13⟩ := hSw; go_simp; try (with_reducible rfl))
    simp only [Act.put, List.setIfInBounds_toArray, List.set_cons_zero, List.set_cons_succ]
    refine wpAnyH_take (i := 15) (oi := ⟨some 18, _, _, _, _, _⟩) (v := ?_) rfl (by kernel_rfl) (by kernel_rfl) (by kernel_rfl) (fun _ _ _ h => h) (Or.inl ⟨by rfl, ?_⟩) hS0 ?_
    rotate_left
    · (intro w' hSw; obtain ⟨s7, s12, s13⟩ := hSw; go_simp; try (with_reducible rfl))
    simp only [Act.put, List.setIfInBounds_toArray, List.set_cons_zero, List.set_cons_succ]
    refine wpAnyH_take (i := 16) (oi := ⟨some 19, _, _, _, _, _⟩) (v := ?_) rfl (by kernel_rfl) (by kernel_rfl) (by kernel_rfl) (fun _ _ _ h => h) (Or.inl ⟨by rfl, ?_⟩) hS0 ?_
    rotate_left
    · (intro w' hSw; obtain ⟨s7, s12, s13⟩ := hSw; go_simp; try (with_reducible rfl))
    simp only [Act.put, List.setIfInBounds_toArray, List.set_cons_zero, List.set_cons_succ]
    refine wpAnyH_take (i := 17) (oi := ⟨some 20, _, _, _, _, _⟩) (v := ?_) rfl (by kernel_rfl) (by kernel_rfl) (by kernel_rfl) (fun _ _ _ h => h) (Or.inl ⟨by rfl, ?_⟩) hS0 ?_
    rotate_left
    · (intro w' hSw; obtain ⟨s7, s12, s13⟩ := hSw; go_simp; try (with_reducible rfl))
    simp only [Act.put, List.setIfInBounds_toArray, List.set_cons_zero, List.set_cons_succ]
    refine wpAnyH_take (i := 18) (oi := ⟨some 21, _, _, _, _, _⟩) (v := ?_) rfl (by kernel_rfl) (by kernel_rfl) (by kernel_rfl) (fun _ _ _ h => h) (Or.inl ⟨by rfl, ?_⟩) hS0 ?_
    rotate_left
    · (intro w' hSw; obtain ⟨s7, s12, s13⟩ := hSw; go_simp; try (with_reducible rfl))
    simp only [Act.put, List.setIfInBounds_toArray, List.set_cons_zero, List.set_cons_succ]
    refine wpAnyH_take (i := 19) (oi := ⟨some 22, _, _, _, _, _⟩) (v := ?_) rfl (by kernel_rfl) (by kernel_rfl) (by kernel_rfl) (fun _ _ _ h => h) (Or.inl ⟨by rfl, ?_⟩) hS0 ?_
    rotate_left
    · (intro w' hSw; obtain ⟨s7, s12, s13⟩ := hSw; go_simp; try (with_reducible rfl))
    simp only [Act.put, List.setIfInBounds_toArray, List.set_cons_zero, List.set_cons_succ]
    refine wpAnyH_take (i := 20) (oi := ⟨some 23, _, _, _, _, _⟩) (v := ?_) rfl (by kernel_rfl) (by kernel_rfl) (by kernel_rfl) (fun _ _ _ h => h) (Or.inl ⟨by rfl, ?_⟩) hS0 ?_
    rotate_left
    · (intro w' hSw; obtain ⟨s7, s12, s13⟩ := hSw; go_simp; try (with_reducible rfl))
    simp only [Act.put, List.setIfInBounds_toArray, List.set_cons_zero, List.set_cons_succ]
    refine wpAnyH_all (rs := [14]) (by kernel_rfl) (by simp) ?_
    intro i hi
    rw [List.mem_singleton] at hi
    subst hi
    refine wpOp_runW (o := ⟨some 17, _, _, _, _, _⟩) rfl rfl fun K' hK => ?_
    go_simp
    refine (HT.out _ (ext_drew w)).mono ?_
    rintro e w3 ⟨rfl, hB⟩
    have hB3 := (ext_drew w).trans hB
    have B3 := Lib.hid hB3
    clear hB hS0
    have hS0 := HS.out _ hB3
    clear hB3
    refine hK _ _ ⟨hS0, ?_⟩
    clear hK K'
    try simp only [Act.put, List.setIfInBounds_toArray, List.set_cons_zero, List.set_cons_succ]
    refine wpAnyH_take (i := 21) (oi := ⟨some 24, _, _, _, _, _⟩) (v := ?_) rfl (by kernel_rfl) (by kernel_rfl) (by kernel_rfl) (fun _ _ _ h => h) (Or.inl ⟨by rfl, ?_⟩) hS0 ?_
    rotate_left
    · (intro w' hSw; obtain ⟨s7, s12, s13⟩ := hSw; go_simp; try (with_reducible rfl))
    simp only [Act.put, List.setIfInBounds_toArray, List.set_cons_zero, List.set_cons_succ]
    refine wpAnyH_take (i := 22) (oi := ⟨some 25, _, _, _, _, _⟩) (v := ?_) rfl (by kernel_rfl) (by kernel_rfl) (by kernel_rfl) (fun _ _ _ h => h) (Or.inl ⟨by rfl, ?_⟩) hS0 ?_
    rotate_left
    · (intro w' hSw; obtain ⟨s7, s12, s13⟩ := hSw; go_simp; try (with_reducible rfl))
    simp only [Act.put, List.setIfInBounds_toArray, List.set_cons_zero, List.set_cons_succ]
    refine wpAnyH_take (i := 23) (oi := ⟨some 2, _, _, _, _, _⟩) (v := ?_) rfl (by kernel_rfl) (by kernel_rfl) (by kernel_rfl) (fun _ _ _ h => h) (Or.inl ⟨by rfl, ?_⟩) hS0 ?_
    rotate_left
    · (intro w' hSw; obtain ⟨s7, s12, s13⟩ := hSw; go_simp; try (with_reducible rfl))
    simp only [Act.put, List.setIfInBounds_toArray, List.set_cons_zero, List.set_cons_succ]
    refine wpAnyH_done (by kernel_rfl) ?_ _
    clear u1 u2
    go_wp2_with fail
    go_ret
    refine ⟨?_, B3.out⟩
    rw [Hr.out]
    simp
  · have k1 : ((j.kind : Int) == 1) = false := beq_eq_false_iff_ne.2 (by omega)
    have k1' : (j.kind == 1) = false := beq_eq_false_iff_ne.2 hk
    have hr : restartsM j x = false := by unfold restartsM; rw [decide_eq_false hk, Bool.false_and]
    have c7 := h.c7
    rw [hr]
    clear hr hk h hx hj
    generalize j.kind = kd at *
    go_enter Try.func46, Try.ntmps46
    go_wp2_with fail
    go_quiet (fail)
    go_wp2_with fail
    go_ret
    exact ⟨rfl, ext_drewN _ _⟩
end Go.Proofs.Ytlgnpogmgpgdaaa
