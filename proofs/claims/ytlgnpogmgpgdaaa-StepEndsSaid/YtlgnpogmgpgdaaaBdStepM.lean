/- Texts merged into one: StepM, StepM2, StepM3, StepM4. -/
import Derived.Test.YtlgnpogmgpgdaaaStepPlain
import Derived.Test.YtlgnpogmgpgdaaaJobNumsP
import Derived.Deep.RegionHeld
import Derived.StillTailTactics
namespace Go.Proofs.Ytlgnpogmgpgdaaa
set_option linter.unusedSimpArgs false
set_option linter.unusedVariables false
set_option maxRecDepth 100000
open Go.RowKit

section
variable {P : Program} {ops : Array Oper} {S : World → Prop} {Q : Exit → Act → World → Prop}
theorem wpOp_runW {i : Nat} {o : Oper} {K : Act → World → Prop} {a : Act} {w : World} (ho : ops[i]? = some o) (hw : Region.wanted o (yielded ops a.tmps) = true)
    (h : ∀ K' : Act → World → Prop, (∀ a w, K a w → K' a w) → o.wp P a w K' Q) : wpOp P ops Q i K a w := by
  unfold wpOp
  rw [ho]
  simp only [hw, if_true]
  exact Or.inl (h K fun _ _ h => h)
end
/-! ### bias -/
set_option maxHeartbeats 1600000 in
theorem scale_any (p q : Nat) (hp : p < 4294967296) (hq : q < 4294967296) (w : World) : Calls Try.prog 83 #[.int .u32 (p : Nat), .int .u32 (q : Nat)] w fun e w' => e = .returned (.int .u64 ((p * q : Nat) : Nat)) ∧ w' = w := by
  have h : p * q ≤ 4294967295 * 4294967295 := Nat.mul_le_mul (by omega) (by omega)
  have hm : IntKind.u64.wrap ((p : Int) * (q : Int)) = ((p * q : Nat) : Int) := by
    rw [show (p : Int) * (q : Int) = ((p * q : Nat) : Int) from by simp]
    exact IntWalk.u64_in _ (by omega)
  have Hm := Lib.hid hm
  clear h hm
  go_enter Try.func83, Try.ntmps83
  go_wp2_with fail
  go_ret
  refine ⟨?_, rfl⟩
  have := Hm.out
  first
    | (rw [this]; done)
    | (refine congrArg (fun n => Ending.returned (Value.int .u64 n)) ?_; simpa [IntKind.wrap, IntKind.bits, IntKind.signed] using this)
set_option maxHeartbeats 1600000 in
theorem weight_any (p q : Nat) (hp : p < 4294967296) (hq : q < 4294967296) (back near : Bool) (w : World) : Calls Try.prog 102 #[.int .u32 (p : Nat), .int .u32 (q : Nat), .bool back, .bool near] w fun e w' => e = .returned (.int .u64 (weightN p q back near : Nat)) ∧ w' = w := by
  have HS := Lib.hid (fun W => scale_any p q hp hq W)
  cases back
  · cases near
    · show Calls _ _ _ _ fun e w' => e = .returned (.int .u64 (p : Nat)) ∧ w' = w
      clear HS
      go_enter Try.func102, Try.ntmps102
      go_wp2_with fail
      go_ret
      exact ⟨rfl, rfl⟩
    · show Calls _ _ _ _ fun e w' => e = .returned (.int .u64 ((p * q : Nat) : Nat)) ∧ w' = w
      generalize p * q = m at *
      go_enter Try.func102, Try.ntmps102
      go_wp2_with (go_at_call 83; refine (HS.out _).mono ?_; rintro e w1 ⟨rfl, rfl⟩)
      go_ret
      exact ⟨rfl, rfl⟩
  · show Calls _ _ _ _ fun e w' => e = .returned (.int .u64 (q : Nat)) ∧ w' = w
    clear HS
    go_enter Try.func102, Try.ntmps102
    go_wp2_with fail
    go_ret
    exact ⟨rfl, rfl⟩
set_option maxHeartbeats 1600000 in
theorem baccepts_any (p q : Nat) (hp : p < 4294967296) (hq : q < 4294967296) (back near : Bool) (u : Nat) (w : World) : Calls Try.prog 81 #[.int .u32 (p : Nat), .int .u32 (q : Nat), .bool back, .bool near, .int .u64 (u : Nat)] w fun e w' => e = .returned (.bool (decide (u < weightN p q back near))) ∧ w' = w := by
  have HW := Lib.hid (fun W => weight_any p q hp hq back near W)
  generalize weightN p q back near = m at *
  go_enter Try.func81, Try.ntmps81
  go_wp2_with (go_at_call 102; refine (HW.out _).mono ?_; rintro e w1 ⟨rfl, rfl⟩)
  go_ret
  exact ⟨by simp, rfl⟩
set_option maxHeartbeats 1600000 in
theorem bsure_any (p q : Nat) (hp : p < 4294967296) (hq : q < 4294967296) (back : Bool) (u : Nat) (a b : Bool) (ha : decide (u < weightN p q back true) = a) (hb : decide (u < weightN p q back false) = b) (w : World) : Calls Try.prog 85 #[.int .u32 (p : Nat), .int .u32 (q : Nat), .bool back, .int .u64 (u : Nat)] w fun e w' => e = .returned (.tuple #[.bool (a && b), .bool (a == b)]) ∧ w' = w := by
  have HA := Lib.hid (fun W => baccepts_any p q hp hq back true u W)
  have HB := Lib.hid (fun W => baccepts_any p q hp hq back false u W)
  rw [ha] at HA
  rw [hb] at HB
  clear ha hb
  go_enter Try.func85, Try.ntmps85
  cases a <;> cases b
  all_goals
    go_wp2_with (first
      | (go_at_call 81; (with_reducible refine (HA.out _).mono ?_); rintro e w1 ⟨rfl, rfl⟩)
      | (go_at_call 81; (with_reducible refine (HB.out _).mono ?_); rintro e w1 ⟨rfl, rfl⟩))
    go_ret2
    exact ⟨rfl, rfl⟩

/-! ### a mover -/
def mvCs (x : WkD) (j : JobD) (ao : Option Addr) (cap : Nat) : Array Value :=
  #[.int .u32 (x.id : Nat), .int .u32 (x.step : Nat), .int .u32 (x.at_ : Nat), .int .u32 (x.prev : Nat), .int .u32 (x.next : Nat), .int .u32 (x.try_ : Nat), .int .u32 (x.state : Nat),
    .int .u8 (j.kind : Nat), .int .u64 (j.seed : Nat), .int .u32 (j.length : Nat), .int .u32 (j.walks : Nat), .slice ao j.src.length cap, .int .u32 (j.stop : Nat), .int .u32 (j.od : Nat), .int .u32 (j.p : Nat), .int .u32 (j.q : Nat),
    .int .u32 (j.tries : Nat), .int .u32 (j.best : Nat), .int .u32 (j.bsh : Nat), .int .u32 (j.bro : Nat), .int .u32 (j.bpo : Nat), .int .u32 (j.bso : Nat)]
/-- the mover's cells that are read -/
structure MvS (g : Nat) (x : WkD) (j : JobD) (w : World) : Prop where
  c0 : w.cell? ⟨g, 0, none⟩ = some (.int .u32 (x.id : Nat))
  c1 : w.cell? ⟨g, 1, none⟩ = some (.int .u32 (x.step : Nat))
  c2 : w.cell? ⟨g, 2, none⟩ = some (.int .u32 (x.at_ : Nat))
  c3 : w.cell? ⟨g, 3, none⟩ = some (.int .u32 (x.prev : Nat))
  c4 : w.cell? ⟨g, 4, none⟩ = some (.int .u32 (x.next : Nat))
  c5 : w.cell? ⟨g, 5, none⟩ = some (.int .u32 (x.try_ : Nat))
  c6 : w.cell? ⟨g, 6, none⟩ = some (.int .u32 (x.state : Nat))
  c7 : w.cell? ⟨g, 7, none⟩ = some (.int .u8 (j.kind : Nat))
  c8 : w.cell? ⟨g, 8, none⟩ = some (.int .u64 (j.seed : Nat))
  c12 : w.cell? ⟨g, 12, none⟩ = some (.int .u32 (j.stop : Nat))
  c13 : w.cell? ⟨g, 13, none⟩ = some (.int .u32 (j.od : Nat))
  c14 : w.cell? ⟨g, 14, none⟩ = some (.int .u32 (j.p : Nat))
  c15 : w.cell? ⟨g, 15, none⟩ = some (.int .u32 (j.q : Nat))
  c16 : w.cell? ⟨g, 16, none⟩ = some (.int .u32 (j.tries : Nat))
  fr : ∀ i, w.frozen? ⟨g, i, none⟩ = false
theorem MvS.of {g : Nat} {x : WkD} {j : JobD} {ao : Option Addr} {cap : Nat} {t : TypeId} {w : World} (h : w.heap[g]? = some (.cells (mvCs x j ao cap) t (0, 0))) : MvS g x j w := by
  have hc := fun i => cell_of_row w g i (mvCs x j ao cap) t (0, 0) h
  exact ⟨hc 0, hc 1, hc 2, hc 3, hc 4, hc 5, hc 6, hc 7, hc 8, hc 12, hc 13, hc 14, hc 15, hc 16, fun i => frozen_of_row w g i _ t h⟩
theorem MvS.keep {g : Nat} {x : WkD} {j : JobD} {w w' : World} (h : MvS g x j w) (hk : w'.heap[g]? = w.heap[g]?) : MvS g x j w' := by
  have k := fun i => World.cell?_of_block (w := w) (w' := w') (a := ⟨g, i, none⟩) hk
  have f := fun i => World.frozen?_of_block (w := w) (w' := w') (a := ⟨g, i, none⟩) hk
  exact ⟨(k 0).trans h.c0, (k 1).trans h.c1, (k 2).trans h.c2, (k 3).trans h.c3, (k 4).trans h.c4, (k 5).trans h.c5, (k 6).trans h.c6, (k 7).trans h.c7, (k 8).trans h.c8, (k 12).trans h.c12, (k 13).trans h.c13, (k 14).trans h.c14, (k 15).trans h.c15, (k 16).trans h.c16, fun i => (f i).trans (h.fr i)⟩
theorem MvS.lt {g : Nat} {x : WkD} {j : JobD} {w : World} (h : MvS g x j w) : g < w.heap.size := block_lt_of_cell h.c0
theorem MvS.ext {g : Nat} {x : WkD} {j : JobD} {w w' : World} (h : MvS g x j w) (hB : Below w.heap.size w w') : MvS g x j w' := h.keep (hB.block g h.lt)

set_option maxHeartbeats 3200000 in
theorem tape_any (g : Nat) (x : WkD) (hx : WkOk x) (j : JobD) (t v : Nat) (ht : 2 * t + v < 18446744073709551616) (w : World) (h : MvS g x j w) :
    Calls Try.prog 51 #[.pointer (some ⟨g, 0, none⟩), .int .u64 (t : Nat), .int .u64 (v : Nat)] w (RetB (.agg #[.int .u64 (j.seed : Nat), .int .u64 (x.id : Nat), .int .u64 (x.step : Nat), .int .u64 ((2 * t + v : Nat) : Nat)]) w) := by
  obtain ⟨c0, c1, _, _, _, _, _, _, c8, _, _, _, _, _, _⟩ := h.ext (ext_alloc w (.cells #[.int .u64 0, .int .u64 0, .int .u64 0, .int .u64 0] 97))
  have hid := hx.id
  have hst := hx.step
  have hgl := h.lt
  have hgn : ¬ g = w.heap.size := by omega
  clear hx h
  generalize hw1 : w.alloc (.cells #[.int .u64 0, .int .u64 0, .int .u64 0, .int .u64 0] 97) = w1 at *
  have HB1 := Lib.hid (show Below w.heap.size w w1 by rw [← hw1]; exact ext_alloc _ _)
  have Hh1 := Lib.hid (show w1.heap[w.heap.size]? = some (.cells #[.int .u64 0, .int .u64 0, .int .u64 0, .int .u64 0] 97 (0, 0)) by rw [← hw1]; exact heap_alloc_new _ _)
  generalize j.seed = sd at *
  generalize x.id = i at *
  generalize x.step = s at *
  go_enter Try.func51, Try.ntmps51
  go_wp2_with fail
  try rw [hw1]
  have u1 : IntKind.u64.wrap (i : Int) = (i : Int) := IntWalk.u64_in _ (by omega)
  have u2 : IntKind.u64.wrap (s : Int) = (s : Int) := IntWalk.u64_in _ (by omega)
  have u3 : IntKind.u64.wrap (2 * (t : Int)) = 2 * (t : Int) := IntWalk.u64_in _ (by omega)
  have u4 : IntKind.u64.wrap (2 * (t : Int) + (v : Int)) = 2 * (t : Int) + (v : Int) := IntWalk.u64_in _ (by omega)
  refine wp_region_still_tail 22 (by kernel_rfl) (by kernel_rfl) ?_
  change wpStill _ _ (World.drew _) _ _ _
  simp only [List.take_succ_cons, List.take_zero, List.drop_succ_cons, List.drop_zero]
  repeat still_step
  refine wpStill_nil ?_
  change wpList _ _ _ _ _ (World.drew _)
  clear u1 u2 u3 u4 c0 c1 c8
  go_wp2_with (refine wpList_store_row rfl _ _ _ rfl rfl rfl (show (World.drew w1).heap[w.heap.size]? = _ from Hh1.out) rfl (show _ = some 4 by kernel_rfl) (by simp [Value.oneCell']) ?_; intro w3 hg3 ho3; have Hg3 := Lib.hid hg3; have Ho3 := Lib.hid ho3; clear hg3 ho3)
  refine bodyPost_ret (results_cell_row rfl _ _ w.heap.size 97 _ (0, 0) _ rfl Hg3.out Try.underlying97 rfl (show _ = some 4 by kernel_rfl)) rfl ⟨?_, HB1.out.drew.trans (Ho3.out.below HB1.out.size (fun k hk e => by omega))⟩
  simp
theorem below_nat (s k t a n : Nat) (hn : n < 18446744073709551616) (w : World) :
    Calls Try.prog 50 #[.agg #[.int .u64 (s : Nat), .int .u64 (k : Nat), .int .u64 (t : Nat), .int .u64 (a : Nat)], .int .u64 (n : Nat)] w (RetB (.int .u64 ((belowZ (drawZ s k t a) n).toNat : Nat)) w) := by
  have h := below_any s k t a n w (by omega) (by omega)
  have h0 : 0 ≤ belowZ (drawZ s k t a) n := by
    rcases Nat.eq_zero_or_pos n with h0 | h0
    · subst h0; unfold belowZ; simp
    · exact (belowZ_lt _ _ (by omega)).1
  rw [← Int.toNat_of_nonneg h0] at h
  exact h
set_option maxHeartbeats 3200000 in
theorem test_any (g : Nat) (x : WkD) (hx : WkOk x) (j : JobD) (t n : Nat) (ht : t < 4294967296) (hn : n < 18446744073709551616) (w : World) (h : MvS g x j w) :
    Calls Try.prog 82 #[.pointer (some ⟨g, 0, none⟩), .int .u32 (t : Nat), .int .u64 (n : Nat)] w (RetB (.int .u64 (drwN j x (2 * t) n : Nat)) w) := by
  have HT := Lib.hid (show Calls Try.prog 51 #[.pointer (some ⟨g, 0, none⟩), .int .u64 (t : Nat), .int .u64 0] w (RetB (.agg #[.int .u64 (j.seed : Nat), .int .u64 (x.id : Nat), .int .u64 (x.step : Nat), .int .u64 ((2 * t : Nat) : Nat)]) w) from tape_any g x hx j t 0 (by omega) w h)
  have HB := Lib.hid (fun W => below_nat j.seed x.id x.step (2 * t) n hn W)
  unfold drwN
  have u1 : IntKind.u64.wrap (t : Int) = (t : Int) := IntWalk.u64_in _ (by omega)
  clear h hx
  generalize (belowZ (drawZ j.seed x.id x.step ((2 * t : Nat) : Int)) n).toNat = r at *
  generalize j.seed = sd at *
  generalize x.id = i at *
  generalize x.step = s at *
  generalize 2 * t = tt at *
  go_enter Try.func82, Try.ntmps82
  go_wp2_with (first
    | (go_at_call 51; (with_reducible refine HT.out.mono ?_); rintro e w1 ⟨rfl, hB⟩; have B1 := Lib.hid hB; clear hB)
    | (go_at_call 50; (with_reducible refine (HB.out _).mono ?_); rintro e w2 ⟨rfl, hB⟩; have B2 := Lib.hid (B1.out.trans (hB.mono B1.out.size)); clear hB))
  go_ret
  exact ⟨rfl, B2.out⟩
def RstS (g kind stop od : Nat) (w : World) : Prop := w.cell? ⟨g, 7, none⟩ = some (.int .u8 (kind : Nat)) ∧ w.cell? ⟨g, 12, none⟩ = some (.int .u32 (stop : Nat)) ∧ w.cell? ⟨g, 13, none⟩ = some (.int .u32 (od : Nat))
set_option maxHeartbeats 3200000 in
set_option maxRecDepth 100000 in
theorem restarts_any (g : Nat) (x : WkD) (hx : WkOk x) (j : JobD) (hj : JobOk j) (w : World) (h : MvS g x j w) :
    Calls Try.prog 46 #[.pointer (some ⟨g, 0, none⟩)] w (RetB (.bool (restartsM j x)) w) := by
  have hod := hj.od
  have hsp := hj.stop
  by_cases hk : j.kind = 1
  · have k1 : ((j.kind : Int) == 1) = true := by rw [hk]; rfl
    have k1' : (j.kind == 1) = true := by rw [hk]; rfl
    have hr : restartsM j x = decide (drwN j x 0 j.od < j.stop) := by unfold restartsM; rw [decide_eq_true hk, Bool.true_and]
    have HT := Lib.hid (fun W (hB : Below w.heap.size w W) => test_any g x hx j 0 j.od (by omega) (by omega) W (h.ext hB))
    have Hr := Lib.hid hr
    have HS := Lib.hid (fun W (hB : Below w.heap.size w W) => (show RstS g j.kind j.stop j.od W from ⟨(h.ext hB).c7, (h.ext hB).c12, (h.ext hB).c13⟩))
    simp only [Nat.mul_zero] at HT
    generalize drwN j x 0 j.od = u at *
    clear hk hr h hx hj
    generalize j.kind = kd at *
    generalize j.stop = sp at *
    generalize j.od = od at *
    have u1 : IntKind.u64.wrap (od : Int) = (od : Int) := IntWalk.u64_in _ (by omega)
    have u2 : IntKind.u64.wrap (sp : Int) = (sp : Int) := IntWalk.u64_in _ (by omega)
    go_enter Try.func46, Try.ntmps46
    go_wp2_with fail
    refine wp_region_held (S := RstS g kd sp od) (by kernel_rfl) ?_
    have hS0 : RstS g kd sp od w.drew := HS.out _ (ext_drew w)
    change wpAnyH _ _ _ _ _ _ _ _ (World.drew _)
    refine wpAnyH_take (i := 0) (oi := ⟨some 3, _, _, _, _, _⟩) (v := ?_) rfl (by kernel_rfl) (by kernel_rfl) (by kernel_rfl) (fun _ _ _ h => h) (Or.inl ⟨by rfl, ?_⟩) hS0 ?_
    rotate_left
    · (intro w' hSw; obtain ⟨s7, s12, s13⟩ := hSw; go_simp; try (with_reducible rfl))
    simp only [Act.put, List.setIfInBounds_toArray, List.set_cons_zero, List.set_cons_succ]
    refine wpAnyH_take (i := 1) (oi := ⟨some 4, _, _, _, _, _⟩) (v := ?_) rfl (by kernel_rfl) (by kernel_rfl) (by kernel_rfl) (fun _ _ _ h => h) (Or.inl ⟨by rfl, ?_⟩) hS0 ?_
    rotate_left
    · (intro w' hSw; obtain ⟨s7, s12, s13⟩ := hSw; go_simp; try (with_reducible rfl))
    simp only [Act.put, List.setIfInBounds_toArray, List.set_cons_zero, List.set_cons_succ]
    refine wpAnyH_take (i := 2) (oi := ⟨some 5, _, _, _, _, _⟩) (v := ?_) rfl (by kernel_rfl) (by kernel_rfl) (by kernel_rfl) (fun _ _ _ h => h) (Or.inl ⟨by rfl, ?_⟩) hS0 ?_
    rotate_left
    · (intro w' hSw; obtain ⟨s7, s12, s13⟩ := hSw; go_simp; try (with_reducible rfl))
    simp only [Act.put, List.setIfInBounds_toArray, List.set_cons_zero, List.set_cons_succ]
    refine wpAnyH_take (i := 3) (oi := ⟨some 6, _, _, _, _, _⟩) (v := ?_) rfl (by kernel_rfl) (by kernel_rfl) (by kernel_rfl) (fun _ _ _ h => h) (Or.inl ⟨by rfl, ?_⟩) hS0 ?_
    rotate_left
    · (intro w' hSw; obtain ⟨s7, s12, s13⟩ := hSw; go_simp; try (with_reducible rfl))
    simp only [Act.put, List.setIfInBounds_toArray, List.set_cons_zero, List.set_cons_succ]
    refine wpAnyH_take (i := 4) (oi := ⟨some 7, _, _, _, _, _⟩) (v := ?_) rfl (by kernel_rfl) (by kernel_rfl) (by kernel_rfl) (fun _ _ _ h => h) (Or.inl ⟨by rfl, ?_⟩) hS0 ?_
    rotate_left
    · (intro w' hSw; obtain ⟨s7, s12, s13⟩ := hSw; go_simp; try (with_reducible rfl))
    simp only [Act.put, List.setIfInBounds_toArray, List.set_cons_zero, List.set_cons_succ]
    refine wpAnyH_take (i := 5) (oi := ⟨some 8, _, _, _, _, _⟩) (v := ?_) rfl (by kernel_rfl) (by kernel_rfl) (by kernel_rfl) (fun _ _ _ h => h) (Or.inl ⟨by rfl, ?_⟩) hS0 ?_
    rotate_left
    · (intro w' hSw; obtain ⟨s7, s12, s13⟩ := hSw; go_simp; try (with_reducible rfl))
    simp only [Act.put, List.setIfInBounds_toArray, List.set_cons_zero, List.set_cons_succ]
    refine wpAnyH_take (i := 6) (oi := ⟨some 9, _, _, _, _, _⟩) (v := ?_) rfl (by kernel_rfl) (by kernel_rfl) (by kernel_rfl) (fun _ _ _ h => h) (Or.inl ⟨by rfl, ?_⟩) hS0 ?_
    rotate_left
    · (intro w' hSw; obtain ⟨s7, s12, s13⟩ := hSw; go_simp; try (with_reducible rfl))
    simp only [Act.put, List.setIfInBounds_toArray, List.set_cons_zero, List.set_cons_succ]
    refine wpAnyH_take (i := 7) (oi := ⟨some 10, _, _, _, _, _⟩) (v := ?_) rfl (by kernel_rfl) (by kernel_rfl) (by kernel_rfl) (fun _ _ _ h => h) (Or.inl ⟨by rfl, ?_⟩) hS0 ?_
    rotate_left
    · (intro w' hSw; obtain ⟨s7, s12, s13⟩ := hSw; go_simp; try (with_reducible rfl))
    simp only [Act.put, List.setIfInBounds_toArray, List.set_cons_zero, List.set_cons_succ]
    refine wpAnyH_take (i := 8) (oi := ⟨some 11, _, _, _, _, _⟩) (v := ?_) rfl (by kernel_rfl) (by kernel_rfl) (by kernel_rfl) (fun _ _ _ h => h) (Or.inl ⟨by rfl, ?_⟩) hS0 ?_
    rotate_left
    · (intro w' hSw; obtain ⟨s7, s12, s13⟩ := hSw; go_simp; try (with_reducible rfl))
    simp only [Act.put, List.setIfInBounds_toArray, List.set_cons_zero, List.set_cons_succ]
    refine wpAnyH_take (i := 9) (oi := ⟨some 12, _, _, _, _, _⟩) (v := ?_) rfl (by kernel_rfl) (by kernel_rfl) (by kernel_rfl) (fun _ _ _ h => h) (Or.inl ⟨by rfl, ?_⟩) hS0 ?_
    rotate_left
    · (intro w' hSw; obtain ⟨s7, s12, s13⟩ := hSw; go_simp; try (with_reducible rfl))
    simp only [Act.put, List.setIfInBounds_toArray, List.set_cons_zero, List.set_cons_succ]
    refine wpAnyH_take (i := 10) (oi := ⟨some 13, _, _, _, _, _⟩) (v := ?_) rfl (by kernel_rfl) (by kernel_rfl) (by kernel_rfl) (fun _ _ _ h => h) (Or.inl ⟨by rfl, ?_⟩) hS0 ?_
    rotate_left
    · (intro w' hSw; obtain ⟨s7, s12, s13⟩ := hSw; go_simp; try (with_reducible rfl))
    simp only [Act.put, List.setIfInBounds_toArray, List.set_cons_zero, List.set_cons_succ]
    refine wpAnyH_take (i := 11) (oi := ⟨some 14, _, _, _, _, _⟩) (v := ?_) rfl (by kernel_rfl) (by kernel_rfl) (by kernel_rfl) (fun _ _ _ h => h) (Or.inl ⟨by rfl, ?_⟩) hS0 ?_
    rotate_left
    · (intro w' hSw; obtain ⟨s7, s12, s13⟩ := hSw; go_simp; try (with_reducible rfl))
    simp only [Act.put, List.setIfInBounds_toArray, List.set_cons_zero, List.set_cons_succ]
    refine wpAnyH_take (i := 12) (oi := ⟨some 15, _, _, _, _, _⟩) (v := ?_) rfl (by kernel_rfl) (by kernel_rfl) (by kernel_rfl) (fun _ _ _ h => h) (Or.inl ⟨by rfl, ?_⟩) hS0 ?_
    rotate_left
    · (intro w' hSw; obtain ⟨s7, s12, s13⟩ := hSw; go_simp; try (with_reducible rfl))
    simp only [Act.put, List.setIfInBounds_toArray, List.set_cons_zero, List.set_cons_succ]
    refine wpAnyH_take (i := 13) (oi := ⟨some 16, _, _, _, _, _⟩) (v := ?_) rfl (by kernel_rfl) (by kernel_rfl) (by kernel_rfl) (fun _ _ _ h => h) (Or.inl ⟨by rfl, ?_⟩) hS0 ?_
    rotate_left
    · (intro w' hSw; obtain ⟨s7, s12, s13⟩ := hSw; go_simp; try (with_reducible rfl))
    simp only [Act.put, List.setIfInBounds_toArray, List.set_cons_zero, List.set_cons_succ]
    refine wpAnyH_take (i := 15) (oi := ⟨some 18, _, _, _, _, _⟩) (v := ?_) rfl (by kernel_rfl) (by kernel_rfl) (by kernel_rfl) (fun _ _ _ h => h) (Or.inl ⟨by rfl, ?_⟩) hS0 ?_
    rotate_left
    · (intro w' hSw; obtain ⟨s7, s12, s13⟩ := hSw; go_simp; try (with_reducible rfl))
    simp only [Act.put, List.setIfInBounds_toArray, List.set_cons_zero, List.set_cons_succ]
    refine wpAnyH_take (i := 16) (oi := ⟨some 19, _, _, _, _, _⟩) (v := ?_) rfl (by kernel_rfl) (by kernel_rfl) (by kernel_rfl) (fun _ _ _ h => h) (Or.inl ⟨by rfl, ?_⟩) hS0 ?_
    rotate_left
    · (intro w' hSw; obtain ⟨s7, s12, s13⟩ := hSw; go_simp; try (with_reducible rfl))
    simp only [Act.put, List.setIfInBounds_toArray, List.set_cons_zero, List.set_cons_succ]
    refine wpAnyH_take (i := 17) (oi := ⟨some 20, _, _, _, _, _⟩) (v := ?_) rfl (by kernel_rfl) (by kernel_rfl) (by kernel_rfl) (fun _ _ _ h => h) (Or.inl ⟨by rfl, ?_⟩) hS0 ?_
    rotate_left
    · (intro w' hSw; obtain ⟨s7, s12, s13⟩ := hSw; go_simp; try (with_reducible rfl))
    simp only [Act.put, List.setIfInBounds_toArray, List.set_cons_zero, List.set_cons_succ]
    refine wpAnyH_take (i := 18) (oi := ⟨some 21, _, _, _, _, _⟩) (v := ?_) rfl (by kernel_rfl) (by kernel_rfl) (by kernel_rfl) (fun _ _ _ h => h) (Or.inl ⟨by rfl, ?_⟩) hS0 ?_
    rotate_left
    · (intro w' hSw; obtain ⟨s7, s12, s13⟩ := hSw; go_simp; try (with_reducible rfl))
    simp only [Act.put, List.setIfInBounds_toArray, List.set_cons_zero, List.set_cons_succ]
    refine wpAnyH_take (i := 19) (oi := ⟨some 22, _, _, _, _, _⟩) (v := ?_) rfl (by kernel_rfl) (by kernel_rfl) (by kernel_rfl) (fun _ _ _ h => h) (Or.inl ⟨by rfl, ?_⟩) hS0 ?_
    rotate_left
    · (intro w' hSw; obtain ⟨s7, s12, s13⟩ := hSw; go_simp; try (with_reducible rfl))
    simp only [Act.put, List.setIfInBounds_toArray, List.set_cons_zero, List.set_cons_succ]
    refine wpAnyH_take (i := 20) (oi := ⟨some 23, _, _, _, _, _⟩) (v := ?_) rfl (by kernel_rfl) (by kernel_rfl) (by kernel_rfl) (fun _ _ _ h => h) (Or.inl ⟨by rfl, ?_⟩) hS0 ?_
    rotate_left
    · (intro w' hSw; obtain ⟨s7, s12, s13⟩ := hSw; go_simp; try (with_reducible rfl))
    simp only [Act.put, List.setIfInBounds_toArray, List.set_cons_zero, List.set_cons_succ]
    refine wpAnyH_all (rs := [14]) (by kernel_rfl) (by simp) ?_
    intro i hi
    rw [List.mem_singleton] at hi
    subst hi
    refine wpOp_runW (o := ⟨some 17, _, _, _, _, _⟩) rfl rfl fun K' hK => ?_
    go_simp
    refine (HT.out _ (ext_drew w)).mono ?_
    rintro e w3 ⟨rfl, hB⟩
    have hB3 := (ext_drew w).trans hB
    have B3 := Lib.hid hB3
    clear hB hS0
    have hS0 := HS.out _ hB3
    clear hB3
    refine hK _ _ ⟨hS0, ?_⟩
    clear hK K'
    try simp only [Act.put, List.setIfInBounds_toArray, List.set_cons_zero, List.set_cons_succ]
    refine wpAnyH_take (i := 21) (oi := ⟨some 24, _, _, _, _, _⟩) (v := ?_) rfl (by kernel_rfl) (by kernel_rfl) (by kernel_rfl) (fun _ _ _ h => h) (Or.inl ⟨by rfl, ?_⟩) hS0 ?_
    rotate_left
    · (intro w' hSw; obtain ⟨s7, s12, s13⟩ := hSw; go_simp; try (with_reducible rfl))
    simp only [Act.put, List.setIfInBounds_toArray, List.set_cons_zero, List.set_cons_succ]
    refine wpAnyH_take (i := 22) (oi := ⟨some 25, _, _, _, _, _⟩) (v := ?_) rfl (by kernel_rfl) (by kernel_rfl) (by kernel_rfl) (fun _ _ _ h => h) (Or.inl ⟨by rfl, ?_⟩) hS0 ?_
    rotate_left
    · (intro w' hSw; obtain ⟨s7, s12, s13⟩ := hSw; go_simp; try (with_reducible rfl))
    simp only [Act.put, List.setIfInBounds_toArray, List.set_cons_zero, List.set_cons_succ]
    refine wpAnyH_take (i := 23) (oi := ⟨some 2, _, _, _, _, _⟩) (v := ?_) rfl (by kernel_rfl) (by kernel_rfl) (by kernel_rfl) (fun _ _ _ h => h) (Or.inl ⟨by rfl, ?_⟩) hS0 ?_
    rotate_left
    · (intro w' hSw; obtain ⟨s7, s12, s13⟩ := hSw; go_simp; try (with_reducible rfl))
    simp only [Act.put, List.setIfInBounds_toArray, List.set_cons_zero, List.set_cons_succ]
    refine wpAnyH_done (by kernel_rfl) ?_ _
    clear u1 u2
    go_wp2_with fail
    go_ret
    refine ⟨?_, B3.out⟩
    rw [Hr.out]
    simp
  · have k1 : ((j.kind : Int) == 1) = false := beq_eq_false_iff_ne.2 (by omega)
    have k1' : (j.kind == 1) = false := beq_eq_false_iff_ne.2 hk
    have hr : restartsM j x = false := by unfold restartsM; rw [decide_eq_false hk, Bool.false_and]
    have c7 := h.c7
    rw [hr]
    clear hr hk h hx hj
    generalize j.kind = kd at *
    go_enter Try.func46, Try.ntmps46
    go_wp2_with fail
    go_quiet (fail)
    go_wp2_with fail
    go_ret
    exact ⟨rfl, ext_drewN _ _⟩
end Go.Proofs.Ytlgnpogmgpgdaaa

namespace Go.Proofs.Ytlgnpogmgpgdaaa
set_option linter.unusedSimpArgs false
set_option linter.unusedVariables false
set_option maxRecDepth 100000
open Go.RowKit

theorem eq_u32 (a b : Nat) : ((a : Int) == (b : Int)) = (a == b) := by
  rw [Bool.eq_iff_iff]; simp only [beq_iff_eq]; omega
set_option maxHeartbeats 3200000 in
set_option maxRecDepth 100000 in
theorem maccepts_any (g : Nat) (x : WkD) (hx : WkOk x) (j : JobD) (hj : JobOk j) (tv : Nat) (near : Bool) (w : World) (h : MvS g x j w) :
    Calls Try.prog 45 #[.pointer (some ⟨g, 0, none⟩), .int .u32 (tv : Nat), .bool near] w (RetB (.bool (acceptsM j x tv near)) w) := by
  have hp := hj.p
  have hq := hj.q
  have htr := hx.try_
  have hpq : j.p * j.q ≤ 4294967295 * 4294967295 := Nat.mul_le_mul (by omega) (by omega)
  have HT := Lib.hid (fun W (hB : Below w.heap.size w W) => test_any g x hx j x.try_ (j.p * j.q) hx.try_ (by omega) W (h.ext hB))
  have HS := Lib.hid (fun W => scale_any j.p j.q hp hq W)
  have HA := Lib.hid (fun W => baccepts_any j.p j.q hp hq (tv == x.prev) near (drwN j x (2 * x.try_) (j.p * j.q)) W)
  have H0 := Lib.hid (h.ext (ext_drew w))
  have HK := Lib.hid (fun W (hB : Below w.heap.size w W) => h.ext hB)
  unfold acceptsM
  generalize drwN j x (2 * x.try_) (j.p * j.q) = u at *
  have hpq2 : j.p * j.q < 18446744073709551616 := by omega
  clear hpq h hx hj
  by_cases hbk : tv = x.prev
  · have b1 : ((tv : Int) == (x.prev : Int)) = true := by rw [hbk]; simp
    have b2 : (tv == x.prev) = true := by rw [hbk]; simp
    rw [b2] at HA ⊢
    clear hbk
    generalize weightN j.p j.q true near = wt at *
    obtain ⟨d0, d1, d2, d3, d4, d5, d6, d7, d8, d12, d13, d14, d15, d16, _⟩ := H0.out
    clear d0 d1 d2 d4 d6 d7 d8 d12 d13 d16
    have HKc := Lib.hid (fun W (hB : Below w.heap.size w W) => (show W.cell? ⟨g, 3, none⟩ = some (.int .u32 (x.prev : Nat)) ∧ W.cell? ⟨g, 5, none⟩ = some (.int .u32 (x.try_ : Nat)) ∧ W.cell? ⟨g, 14, none⟩ = some (.int .u32 (j.p : Nat)) ∧ W.cell? ⟨g, 15, none⟩ = some (.int .u32 (j.q : Nat)) from ⟨(HK.out W hB).c3, (HK.out W hB).c5, (HK.out W hB).c14, (HK.out W hB).c15⟩))
    clear H0 HK
    generalize x.prev = pv at *
    generalize x.try_ = tr at *
    generalize j.p * j.q = pq at *
    generalize j.p = p at *
    generalize j.q = q at *
    go_enter Try.func45, Try.ntmps45
    go_wp2_with fail
    go_region_held3 (fun w' => w'.cell? ⟨g, 3, none⟩ = some (.int .u32 (pv : Nat)) ∧ w'.cell? ⟨g, 5, none⟩ = some (.int .u32 (tr : Nat)) ∧ w'.cell? ⟨g, 14, none⟩ = some (.int .u32 (p : Nat)) ∧ w'.cell? ⟨g, 15, none⟩ = some (.int .u32 (q : Nat)))
      (first | exact ⟨d3, d5, d14, d15⟩ | exact HP1.out)
      (first
        | (go_at_call 83; (with_reducible refine (HS.out _).mono ?_); rintro e w1 ⟨rfl, rfl⟩)
        | (go_at_call 82; (with_reducible refine (HT.out _ (ext_drew w)).mono ?_); rintro e w2 ⟨rfl, hB⟩; have HP1 := Lib.hid (HKc.out _ ((ext_drew w).trans hB)); have B2 := Lib.hid ((ext_drew w).trans hB); clear hB)
        | (go_at_call 81; (with_reducible refine (HA.out _).mono ?_); rintro e w3 ⟨rfl, rfl⟩)
        | fail "no arm")
    go_wp2_with fail
    go_ret
    exact ⟨rfl, B2.out⟩
  · have b1 : ((tv : Int) == (x.prev : Int)) = false := beq_eq_false_iff_ne.2 (by omega)
    have b2 : (tv == x.prev) = false := beq_eq_false_iff_ne.2 hbk
    rw [b2] at HA ⊢
    clear hbk
    generalize weightN j.p j.q false near = wt at *
    obtain ⟨d0, d1, d2, d3, d4, d5, d6, d7, d8, d12, d13, d14, d15, d16, _⟩ := H0.out
    clear d0 d1 d2 d4 d6 d7 d8 d12 d13 d16
    have HKc := Lib.hid (fun W (hB : Below w.heap.size w W) => (show W.cell? ⟨g, 3, none⟩ = some (.int .u32 (x.prev : Nat)) ∧ W.cell? ⟨g, 5, none⟩ = some (.int .u32 (x.try_ : Nat)) ∧ W.cell? ⟨g, 14, none⟩ = some (.int .u32 (j.p : Nat)) ∧ W.cell? ⟨g, 15, none⟩ = some (.int .u32 (j.q : Nat)) from ⟨(HK.out W hB).c3, (HK.out W hB).c5, (HK.out W hB).c14, (HK.out W hB).c15⟩))
    clear H0 HK
    generalize x.prev = pv at *
    generalize x.try_ = tr at *
    generalize j.p * j.q = pq at *
    generalize j.p = p at *
    generalize j.q = q at *
    go_enter Try.func45, Try.ntmps45
    go_wp2_with fail
    go_region_held3 (fun w' => w'.cell? ⟨g, 3, none⟩ = some (.int .u32 (pv : Nat)) ∧ w'.cell? ⟨g, 5, none⟩ = some (.int .u32 (tr : Nat)) ∧ w'.cell? ⟨g, 14, none⟩ = some (.int .u32 (p : Nat)) ∧ w'.cell? ⟨g, 15, none⟩ = some (.int .u32 (q : Nat)))
      (first | exact ⟨d3, d5, d14, d15⟩ | exact HP1.out)
      (first
        | (go_at_call 83; (with_reducible refine (HS.out _).mono ?_); rintro e w1 ⟨rfl, rfl⟩)
        | (go_at_call 82; (with_reducible refine (HT.out _ (ext_drew w)).mono ?_); rintro e w2 ⟨rfl, hB⟩; have HP1 := Lib.hid (HKc.out _ ((ext_drew w).trans hB)); have B2 := Lib.hid ((ext_drew w).trans hB); clear hB)
        | (go_at_call 81; (with_reducible refine (HA.out _).mono ?_); rintro e w3 ⟨rfl, rfl⟩)
        | fail "no arm")
    go_wp2_with fail
    go_ret
    exact ⟨rfl, B2.out⟩
set_option maxHeartbeats 3200000 in
set_option maxRecDepth 100000 in
theorem msure_any (g : Nat) (x : WkD) (hx : WkOk x) (j : JobD) (hj : JobOk j) (tv : Nat) (w : World) (h : MvS g x j w) :
    Calls Try.prog 53 #[.pointer (some ⟨g, 0, none⟩), .int .u32 (tv : Nat)] w (RetB (.tuple #[.bool (acceptsM j x tv true && acceptsM j x tv false), .bool (acceptsM j x tv true == acceptsM j x tv false)]) w) := by
  have hp := hj.p
  have hq := hj.q
  have htr := hx.try_
  have hpq : j.p * j.q ≤ 4294967295 * 4294967295 := Nat.mul_le_mul (by omega) (by omega)
  have HT := Lib.hid (fun W (hB : Below w.heap.size w W) => test_any g x hx j x.try_ (j.p * j.q) hx.try_ (by omega) W (h.ext hB))
  have HS := Lib.hid (fun W => scale_any j.p j.q hp hq W)
  have HA := Lib.hid (fun W => bsure_any j.p j.q hp hq (tv == x.prev) (drwN j x (2 * x.try_) (j.p * j.q)) (acceptsM j x tv true) (acceptsM j x tv false) rfl rfl W)
  have H0 := Lib.hid (h.ext (ext_drew w))
  have HK := Lib.hid (fun W (hB : Below w.heap.size w W) => h.ext hB)
  generalize acceptsM j x tv true = aa at *
  generalize acceptsM j x tv false = ab at *
  generalize drwN j x (2 * x.try_) (j.p * j.q) = u at *
  clear hpq h hx hj
  by_cases hbk : tv = x.prev
  · have b1 : ((tv : Int) == (x.prev : Int)) = true := by rw [hbk]; simp
    have b2 : (tv == x.prev) = true := by rw [hbk]; simp
    rw [b2] at HA
    clear hbk
    obtain ⟨d0, d1, d2, d3, d4, d5, d6, d7, d8, d12, d13, d14, d15, d16, _⟩ := H0.out
    clear d0 d1 d2 d4 d6 d7 d8 d12 d13 d16
    have HKc := Lib.hid (fun W (hB : Below w.heap.size w W) => (show W.cell? ⟨g, 3, none⟩ = some (.int .u32 (x.prev : Nat)) ∧ W.cell? ⟨g, 5, none⟩ = some (.int .u32 (x.try_ : Nat)) ∧ W.cell? ⟨g, 14, none⟩ = some (.int .u32 (j.p : Nat)) ∧ W.cell? ⟨g, 15, none⟩ = some (.int .u32 (j.q : Nat)) from ⟨(HK.out W hB).c3, (HK.out W hB).c5, (HK.out W hB).c14, (HK.out W hB).c15⟩))
    clear H0 HK
    generalize x.prev = pv at *
    generalize x.try_ = tr at *
    generalize j.p * j.q = pq at *
    generalize j.p = p at *
    generalize j.q = q at *
    go_enter Try.func53, Try.ntmps53
    go_wp2_with fail
    go_region_held3 (fun w' => w'.cell? ⟨g, 3, none⟩ = some (.int .u32 (pv : Nat)) ∧ w'.cell? ⟨g, 5, none⟩ = some (.int .u32 (tr : Nat)) ∧ w'.cell? ⟨g, 14, none⟩ = some (.int .u32 (p : Nat)) ∧ w'.cell? ⟨g, 15, none⟩ = some (.int .u32 (q : Nat)))
      (first | exact ⟨d3, d5, d14, d15⟩ | exact HP1.out)
      (first
        | (go_at_call 83; (with_reducible refine (HS.out _).mono ?_); rintro e w1 ⟨rfl, rfl⟩)
        | (go_at_call 82; (with_reducible refine (HT.out _ (ext_drew w)).mono ?_); rintro e w2 ⟨rfl, hB⟩; have HP1 := Lib.hid (HKc.out _ ((ext_drew w).trans hB)); have B2 := Lib.hid ((ext_drew w).trans hB); clear hB)
        | (go_at_call 85; (with_reducible refine (HA.out _).mono ?_); rintro e w3 ⟨rfl, rfl⟩)
        | fail "no arm")
    go_wp2_with fail
    go_ret2
    exact ⟨rfl, B2.out⟩
  · have b1 : ((tv : Int) == (x.prev : Int)) = false := beq_eq_false_iff_ne.2 (by omega)
    have b2 : (tv == x.prev) = false := beq_eq_false_iff_ne.2 hbk
    rw [b2] at HA
    clear hbk
    obtain ⟨d0, d1, d2, d3, d4, d5, d6, d7, d8, d12, d13, d14, d15, d16, _⟩ := H0.out
    clear d0 d1 d2 d4 d6 d7 d8 d12 d13 d16
    have HKc := Lib.hid (fun W (hB : Below w.heap.size w W) => (show W.cell? ⟨g, 3, none⟩ = some (.int .u32 (x.prev : Nat)) ∧ W.cell? ⟨g, 5, none⟩ = some (.int .u32 (x.try_ : Nat)) ∧ W.cell? ⟨g, 14, none⟩ = some (.int .u32 (j.p : Nat)) ∧ W.cell? ⟨g, 15, none⟩ = some (.int .u32 (j.q : Nat)) from ⟨(HK.out W hB).c3, (HK.out W hB).c5, (HK.out W hB).c14, (HK.out W hB).c15⟩))
    clear H0 HK
    generalize x.prev = pv at *
    generalize x.try_ = tr at *
    generalize j.p * j.q = pq at *
    generalize j.p = p at *
    generalize j.q = q at *
    go_enter Try.func53, Try.ntmps53
    go_wp2_with fail
    go_region_held3 (fun w' => w'.cell? ⟨g, 3, none⟩ = some (.int .u32 (pv : Nat)) ∧ w'.cell? ⟨g, 5, none⟩ = some (.int .u32 (tr : Nat)) ∧ w'.cell? ⟨g, 14, none⟩ = some (.int .u32 (p : Nat)) ∧ w'.cell? ⟨g, 15, none⟩ = some (.int .u32 (q : Nat)))
      (first | exact ⟨d3, d5, d14, d15⟩ | exact HP1.out)
      (first
        | (go_at_call 83; (with_reducible refine (HS.out _).mono ?_); rintro e w1 ⟨rfl, rfl⟩)
        | (go_at_call 82; (with_reducible refine (HT.out _ (ext_drew w)).mono ?_); rintro e w2 ⟨rfl, hB⟩; have HP1 := Lib.hid (HKc.out _ ((ext_drew w).trans hB)); have B2 := Lib.hid ((ext_drew w).trans hB); clear hB)
        | (go_at_call 85; (with_reducible refine (HA.out _).mono ?_); rintro e w3 ⟨rfl, rfl⟩)
        | fail "no arm")
    go_wp2_with fail
    go_ret2
    exact ⟨rfl, B2.out⟩
end Go.Proofs.Ytlgnpogmgpgdaaa

namespace Go.Proofs.Ytlgnpogmgpgdaaa
set_option linter.unusedSimpArgs false
set_option linter.unusedVariables false
set_option maxRecDepth 100000
open Go.RowKit

theorem step_store_row {P : Program} {ops : Array Oper} {op : Oper} {a : Act} {w : World} {K : Act → World → Prop} {Q : Exit → Act → World → Prop} {E : Prop} (hgd : op.guard = none) (ty : TypeId) (x y : Operand) (ho : op.op = .store ty x y) {b : Nat} {cells cur : Array Value} {t : TypeId} (hx : a.eval x = .pointer (some ⟨b, 0, none⟩)) (hy : a.eval y = .agg cells)
    (hb : w.heap[b]? = some (.cells cur t (0, 0))) (hs : cells.size = cur.size) (hi : (P.info? ty).map (·.size) = some cells.size) (h1 : cells.all (·.oneCell') = true)
    (hK : ∀ w', w'.heap[b]? = some (.cells cells t (0, 0)) → Only (fun k => k = b) w w' → K (a.put op.dst undef) w') : if Region.wanted op (yielded ops a.tmps) = true then Oper.wp P op a w K Q else E := by
  have hw : Region.wanted op (yielded ops a.tmps) = true := by simp [Region.wanted, hgd]
  rw [if_pos hw]
  refine wp_store_mid ty x y ho b 0 cells hx hy (fun j hj => ?_) hi h1 (hK _ ?_ (only_setCells b _ 0 w))
  · rw [Nat.zero_add]
    refine ⟨?_, frozen_of_row w b j cur t hb⟩
    rw [cell_of_row w b j cur t (0, 0) hb]
    simp; omega
  · have := heap_setCells_in b t (0, 0) cells.toList 0 w cur hb
    rwa [setsAt_all cur cells hs] at this
def wkZ : Array Value := #[.int .u32 0, .int .u32 0, .int .u32 0, .int .u32 0, .int .u32 0, .int .u32 0, .int .u32 0]
def stepsV (j : JobD) (x : WkD) (tv : Nat) : Value := .tuple #[.agg (wkCs (stepsM j x tv).1), .int .u8 2]
def LostRet (g : Nat) (v : Value) (w : World) (e : Ending) (w' : World) : Prop := e = .returned v ∧ Only (fun k => k = g) w w'
set_option maxHeartbeats 3200000 in
set_option maxRecDepth 100000 in
theorem msteps_any (g : Nat) (x : WkD) (j : JobD) (tv : Nat) (w : World) (h : MvS g x j w) :
    Calls Try.prog 48 #[.pointer (some ⟨g, 0, none⟩), .int .u32 (tv : Nat)] w (RetB (stepsV j x tv) w) := by
  have hgl := h.lt
  have hv : stepsV j x tv = .tuple #[.agg #[.int .u32 (x.id : Nat), .int .u32 (((x.step + 1) % 4294967296 : Nat) : Nat), .int .u32 (tv : Nat), .int .u32 (if j.kind = 2 then x.at_ else 0 : Nat), .int .u32 0, .int .u32 0, .int .u32 0], .int .u8 2] := rfl
  obtain ⟨W1, hW1⟩ : ∃ W1, w.alloc (.cells wkZ 30) = W1 := ⟨_, rfl⟩
  have hz1 : W1.heap.size = w.heap.size + 1 := by rw [← hW1]; simp
  have HB1 := Lib.hid (show Below w.heap.size w W1 by rw [← hW1]; exact ext_alloc _ _)
  have Hh1 := Lib.hid (show W1.heap[w.heap.size]? = some (.cells wkZ 30 (0, 0)) by rw [← hW1]; exact heap_alloc_new _ _)
  have HM := Lib.hid (show MvS g x j W1 from h.ext (by rw [← hW1]; exact ext_alloc _ _))
  have hs1 : IntKind.u32.wrap ((x.step : Int) + 1) = (((x.step + 1) % 4294967296 : Nat) : Int) := by simp [IntKind.wrap, IntKind.bits, IntKind.signed]
  have Hs1 := Lib.hid hs1
  have Hv := Lib.hid hv
  have HK := Lib.hid (fun (W : World) (hk : W.heap[g]? = W1.heap[g]?) => HM.out.keep hk)
  clear hs1 hv
  have e0 := (HM.out.ext (ext_drew W1)).c0
  have e1 := (HM.out.ext (ext_drew W1)).c1
  unfold wkZ at hW1
  clear h
  generalize (x.step + 1) % 4294967296 = s1 at *
  go_enter Try.func48, Try.ntmps48
  go_upto_region 1 with fail
  clear hW1
  have hs1 := Hs1.out
  have hgn : ¬ g = w.heap.size + 1 := by omega
  go_region_held3 (fun w' => w'.cell? ⟨g, 0, none⟩ = some (.int .u32 (x.id : Nat)) ∧ w'.cell? ⟨g, 1, none⟩ = some (.int .u32 (x.step : Nat)))
    (first | exact ⟨e0, e1⟩ | exact ⟨(HM.out.ext (ext_alloc W1 _).drew).c0, (HM.out.ext (ext_alloc W1 _).drew).c1⟩)
    (fail "no arm")
  clear hs1 e0 e1
  obtain ⟨W2, hW2⟩ : ∃ W2, (W1.alloc (.cells #[.int .u32 (x.id : Nat), .int .u32 (s1 : Nat), .int .u32 (tv : Nat), .int .u32 0, .int .u32 0, .int .u32 0, .int .u32 0] 30)).drew = W2 := ⟨_, rfl⟩
  rw [hW2]
  have hB2 : Below W1.heap.size W1 W2 := by rw [← hW2]; exact (ext_alloc W1 _).drew
  have hz2 : w.heap.size + 2 ≤ W2.heap.size := by rw [← hW2]; simp [World.drew]; omega
  have Hr2 := Lib.hid (show W2.heap[w.heap.size + 1]? = some (.cells #[.int .u32 (x.id : Nat), .int .u32 (s1 : Nat), .int .u32 (tv : Nat), .int .u32 0, .int .u32 0, .int .u32 0, .int .u32 0] 30 (0, 0)) by rw [← hW2, ← hz1]; exact heap_alloc_new W1 _)
  have HZ2 := Lib.hid ((hB2.block w.heap.size (by omega)).trans Hh1.out)
  have HM2 := Lib.hid (HM.out.ext hB2)
  have HB2 := Lib.hid (HB1.out.trans (hB2.mono HB1.out.size))
  clear hW2 hB2
  have e7 := HM2.out.c7
  by_cases hk : j.kind = 2
  · have k1 : ((j.kind : Int) == 2) = true := by rw [hk]; rfl
    have k1' : (j.kind == 2) = true := by rw [hk]; rfl
    rw [if_pos hk] at Hv
    have e2 := HM2.out.c2
    have q3 : W2.cell? ⟨w.heap.size + 1, 3, none⟩ = some (.int .u32 0) := (cell_of_row W2 _ 3 _ _ (0, 0) Hr2.out)
    have f3 : W2.frozen? ⟨w.heap.size + 1, 3, none⟩ = false := frozen_of_row W2 _ 3 _ _ Hr2.out
    clear hk
    generalize j.kind = kd at *
    have HR := Lib.hid (show (W2.setCell ⟨w.heap.size + 1, 3, none⟩ (.int .u32 (x.at_ : Nat))).heap[w.heap.size + 1]? = some (.cells #[.int .u32 (x.id : Nat), .int .u32 (s1 : Nat), .int .u32 (tv : Nat), .int .u32 (x.at_ : Nat), .int .u32 0, .int .u32 0, .int .u32 0] 30 (0, 0)) from heap_setCells_in (w.heap.size + 1) 30 (0, 0) [.int .u32 (x.at_ : Nat)] 3 W2 _ Hr2.out)
    have HZ := Lib.hid (show (W2.setCell ⟨w.heap.size + 1, 3, none⟩ (.int .u32 (x.at_ : Nat))).heap[w.heap.size]? = some (.cells wkZ 30 (0, 0)) from (Below.heap_setCell _ _ _ _ (by simp)).trans HZ2.out)
    have HBx := Lib.hid (HB2.out.setCell (p := ⟨w.heap.size + 1, 3, none⟩) (by simp) (.int .u32 (x.at_ : Nat)))
    go_wp2_with (first
      | (refine wpList_load_row rfl _ _ rfl (w.heap.size + 1) rfl 30 #[.int .u32 (x.id : Nat), .int .u32 (s1 : Nat), .int .u32 (tv : Nat), .int .u32 (x.at_ : Nat), .int .u32 0, .int .u32 0, .int .u32 0] (0, 0) _ HR.out Try.underlying30 rfl (show _ = some 7 by kernel_rfl) ?_)
      | (refine wpList_store_row rfl _ _ _ rfl rfl rfl HZ.out rfl (show _ = some 7 by kernel_rfl) (by simp [Value.oneCell']) ?_; intro w5 hg5 ho5; have Hg5 := Lib.hid hg5; have Ho5 := Lib.hid ho5; clear hg5 ho5))
    refine bodyPost_ret (results_row_tmp rfl _ _ w.heap.size 30 _ (0, 0) _ rfl Hg5.out Try.underlying30 rfl (show _ = some 7 by kernel_rfl)) rfl ⟨?_, HBx.out.trans (Ho5.out.below HBx.out.size (fun k hk e => by omega))⟩
    rw [Hv.out]
    rfl
  · have k1 : ((j.kind : Int) == 2) = false := beq_eq_false_iff_ne.2 (by omega)
    have k1' : (j.kind == 2) = false := beq_eq_false_iff_ne.2 hk
    rw [if_neg hk] at Hv
    clear hk
    generalize j.kind = kd at *
    have HR := Lib.hid Hr2.out
    have HZ := Lib.hid HZ2.out
    have HBx := Lib.hid HB2.out
    go_wp2_with (first
      | (refine wpList_load_row rfl _ _ rfl (w.heap.size + 1) rfl 30 #[.int .u32 (x.id : Nat), .int .u32 (s1 : Nat), .int .u32 (tv : Nat), .int .u32 0, .int .u32 0, .int .u32 0, .int .u32 0] (0, 0) _ HR.out Try.underlying30 rfl (show _ = some 7 by kernel_rfl) ?_)
      | (refine wpList_store_row rfl _ _ _ rfl rfl rfl HZ.out rfl (show _ = some 7 by kernel_rfl) (by simp [Value.oneCell']) ?_; intro w5 hg5 ho5; have Hg5 := Lib.hid hg5; have Ho5 := Lib.hid ho5; clear hg5 ho5))
    refine bodyPost_ret (results_row_tmp rfl _ _ w.heap.size 30 _ (0, 0) _ rfl Hg5.out Try.underlying30 rfl (show _ = some 7 by kernel_rfl)) rfl ⟨?_, HBx.out.trans (Ho5.out.below HBx.out.size (fun k hk e => by omega))⟩
    rw [Hv.out]
    rfl
end Go.Proofs.Ytlgnpogmgpgdaaa

namespace Go.Proofs.Ytlgnpogmgpgdaaa
set_option linter.unusedSimpArgs false
set_option linter.unusedVariables false
set_option maxRecDepth 100000
open Go.RowKit

set_option maxHeartbeats 3200000 in
set_option maxRecDepth 100000 in
theorem mlost_any (g : Nat) (x : WkD) (hx : WkOk x) (j : JobD) (hj : JobOk j) (ht : x.try_ < j.tries) (w : World) (h : MvS g x j w) :
    Calls Try.prog 54 #[.pointer (some ⟨g, 0, none⟩)] w (LostRet g (.tuple #[.agg (wkCs (lostM j x).1), .int .u8 ((lostM j x).2 : Nat)]) w) := by
  have hgl := h.lt
  have htr := hj.tries
  obtain ⟨W1, hW1⟩ : ∃ W1, w.alloc (.cells wkZ 30) = W1 := ⟨_, rfl⟩
  have hz1 : W1.heap.size = w.heap.size + 1 := by rw [← hW1]; simp
  have HB1 := Lib.hid (show Below w.heap.size w W1 by rw [← hW1]; exact ext_alloc _ _)
  have Hh1 := Lib.hid (show W1.heap[w.heap.size]? = some (.cells wkZ 30 (0, 0)) by rw [← hW1]; exact heap_alloc_new _ _)
  obtain ⟨d0, d1, d2, d3, d4, d5, d6, _, _, _, _, _, _, d16, df⟩ := h.ext (show Below w.heap.size w W1 by rw [← hW1]; exact ext_alloc _ _)
  have f4 := df 4
  have f5 := df 5
  have f6 := df 6
  have hgn : ¬ g = w.heap.size := by omega
  have hgn' : ¬ w.heap.size = g := by omega
  have ht1 : IntKind.u32.wrap ((x.try_ : Int) + 1) = (x.try_ : Int) + 1 := IntWalk.u32_in _ (by omega)
  unfold wkZ at hW1
  clear h df hx hj
  by_cases he : x.try_ + 1 = j.tries
  · have hv : lostM j x = (x, 0) := by unfold lostM; rw [if_pos he]
    have l1 : ((x.try_ : Int) + 1 == (j.tries : Int)) = true := beq_iff_eq.2 (by omega)
    rw [hv]
    clear hv he
    generalize j.tries = tr at *
    go_enter Try.func54, Try.ntmps54
    go_upto_region 1 with fail
    go_quiet (fail)
    clear ht1
    have HZ := Lib.hid (show (W1.drewN nq).heap[w.heap.size]? = some (.cells wkZ 30 (0, 0)) from Hh1.out)
    go_wp2_with (refine wpList_store_row rfl _ _ _ rfl rfl rfl HZ.out rfl (show _ = some 7 by kernel_rfl) (by simp [Value.oneCell']) ?_; intro w5 hg5 ho5; have Hg5 := Lib.hid hg5; have Ho5 := Lib.hid ho5; clear hg5 ho5)
    refine bodyPost_ret (results_row_tmp rfl _ _ w.heap.size 30 _ (0, 0) _ rfl Hg5.out Try.underlying30 rfl (show _ = some 7 by kernel_rfl)) rfl ⟨rfl, (Only.of_below (fp := fun k => k = g) (below_drewN HB1.out nq)).trans Ho5.out (fun i hi e => by omega)⟩
  · have hv : lostM j x = (⟨x.id, x.step, x.at_, x.prev, 0, x.try_ + 1, 0⟩, 1) := by unfold lostM; rw [if_neg he]
    have l1 : ((x.try_ : Int) + 1 == (j.tries : Int)) = false := beq_eq_false_iff_ne.2 (by omega)
    rw [hv]
    clear hv he
    generalize j.tries = tr at *
    go_enter Try.func54, Try.ntmps54
    go_upto_region 1 with fail
    go_quiet (fail)
    clear ht1
    go_upto_region 4 with fail
    obtain ⟨W5, hW5⟩ : ∃ W5, ((((W1.drewN nq).setCell ⟨g, 5, none⟩ (.int .u32 ((x.try_ : Int) + 1))).setCell ⟨g, 4, none⟩ (.int .u32 0)).setCell ⟨g, 6, none⟩ (.int .u32 0)) = W5 := ⟨_, rfl⟩
    rw [hW5]
    have k0 : W5.cell? ⟨g, 0, none⟩ = some (.int .u32 (x.id : Nat)) := by rw [← hW5]; simp [go_sem, cell_set_ite, d0]
    have k1 : W5.cell? ⟨g, 1, none⟩ = some (.int .u32 (x.step : Nat)) := by rw [← hW5]; simp [go_sem, cell_set_ite, d1]
    have k2 : W5.cell? ⟨g, 2, none⟩ = some (.int .u32 (x.at_ : Nat)) := by rw [← hW5]; simp [go_sem, cell_set_ite, d2]
    have k3 : W5.cell? ⟨g, 3, none⟩ = some (.int .u32 (x.prev : Nat)) := by rw [← hW5]; simp [go_sem, cell_set_ite, d3]
    have k4 : W5.cell? ⟨g, 4, none⟩ = some (.int .u32 0) := by rw [← hW5]; simp [go_sem, cell_set_ite, d4]
    have k5 : W5.cell? ⟨g, 5, none⟩ = some (.int .u32 ((x.try_ : Int) + 1)) := by rw [← hW5]; simp [go_sem, cell_set_ite, d5]
    have k6 : W5.cell? ⟨g, 6, none⟩ = some (.int .u32 0) := by rw [← hW5]; simp [go_sem, cell_set_ite, d6]
    have HZ := Lib.hid (show W5.heap[w.heap.size]? = some (.cells wkZ 30 (0, 0)) by
      rw [← hW5]
      exact (Below.heap_setCell _ _ _ _ hgn').trans ((Below.heap_setCell _ _ _ _ hgn').trans ((Below.heap_setCell _ _ _ _ hgn').trans (show (W1.drewN _).heap[w.heap.size]? = some (.cells wkZ 30 (0, 0)) from Hh1.out))))
    have HO5 := Lib.hid (show Only (fun k => k = g) w W5 by
      rw [← hW5]
      exact (((Only.of_below (fp := fun k => k = g) (below_drewN HB1.out nq)).setCell (fun _ => rfl) _).setCell (fun _ => rfl) _).setCell (fun _ => rfl) _)
    clear hW5 d0 d1 d2 d3 d4 d5 d6 d16 f4 f5 f6 l1 hgn hgn' hW1
    go_wp2_with (refine wpList_store_row rfl _ _ _ rfl rfl rfl HZ.out rfl (show _ = some 7 by kernel_rfl) (by simp [Value.oneCell']) ?_; intro w5 hg5 ho5; have Hg5 := Lib.hid hg5; have Ho5 := Lib.hid ho5; clear hg5 ho5)
    refine bodyPost_ret (results_row_tmp rfl _ _ w.heap.size 30 _ (0, 0) _ rfl Hg5.out Try.underlying30 rfl (show _ = some 7 by kernel_rfl)) rfl ⟨rfl, HO5.out.trans Ho5.out (fun i hi e => by omega)⟩
end Go.Proofs.Ytlgnpogmgpgdaaa
