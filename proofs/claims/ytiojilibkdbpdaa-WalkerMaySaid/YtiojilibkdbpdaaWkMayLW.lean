/- WalkerMay: the walk. -/
import Derived.Test.YtiojilibkdbpdaaWkRefMay
import Derived.Test.YtiojilibkdbpdaaJobNumsP
import Derived.Deep.RegionHeld
namespace Go.Proofs.Ytiojilibkdbpdaa
set_option linter.unusedSimpArgs false
set_option linter.unusedVariables false
set_option maxRecDepth 100000
open Go.RowKit

section
variable {P : Program} {ops : Array Oper} {S : World → Prop} {Q : Exit → Act → World → Prop}
theorem yieldsIf_row {o : Oper} {a : Act} (hw : Region.wanted o (yielded ops a.tmps) = true) (ty : TypeId) (x : Operand) (ho : o.op = .load ty x) (g : Nat) (hx : a.eval x = .pointer (some ⟨g, 0, none⟩)) (t : TypeId) (cs : Array Value) (fr : Nat × Nat) (d : TypeDesc)
    (hS : ∀ w, S w → w.heap[g]? = some (.cells cs t fr)) (hu : P.underlying ty = some d) (hd : (match d with | .struct _ | .array _ _ => true | _ => false) = true) (hi : (P.info? ty).map (·.size) = some cs.size) : YieldsIf P ops S o (.agg cs) a := by
  refine Or.inl ⟨hw, fun w hs => ?_⟩
  unfold execOp
  simp only [ho, hx, Instr.loadAt, Instr.sureAddr, Sem.run_bind, Sem.run_pure, Result.andThen_ok, run_loadVar_row w g t ty cs fr d (hS w hs) hu hd hi]
theorem wpOp_runW {i : Nat} {o : Oper} {K : Act → World → Prop} {a : Act} {w : World} (ho : ops[i]? = some o) (hw : Region.wanted o (yielded ops a.tmps) = true)
    (h : ∀ K' : Act → World → Prop, (∀ a w, K a w → K' a w) → o.wp P a w K' Q) : wpOp P ops Q i K a w := by
  unfold wpOp
  rw [ho]
  simp only [hw, if_true]
  exact Or.inl (h K fun _ _ h => h)
end
def WMS (b : Nat) (jc wc : Array Value) (w' : World) : Prop := w'.heap[b]? = some (.cells jc 28 (0, 0)) ∧ w'.heap[b + 1]? = some (.cells wc 31 (0, 0))
theorem WMS.keep {b : Nat} {jc wc : Array Value} {w w' : World} (h : WMS b jc wc w) (hB : Below w.heap.size w w') : WMS b jc wc w' :=
  ⟨(hB.block b (Array.getElem?_eq_some_iff.1 h.1).1).trans h.1, (hB.block (b + 1) (Array.getElem?_eq_some_iff.1 h.2).1).trans h.2⟩
set_option maxRecDepth 100000 in
set_option maxHeartbeats 6400000 in
theorem may20_walk (j : JobD) (hj : JobOk j) (ao : Option Addr) (cap : Nat) (x : WkD) (hx : WkOk x) (w : World) (hsrc : Rd w ao j.src.length (u32s j.src)) :
    Calls Try.prog 4 #[.agg (jobCs j ao cap), .agg (wkCs x)] w (RetB (.bool true) w) := by
  have HA := Lib.hid awake20_any
  obtain ⟨n, hn⟩ : ∃ n, n = j.src.length := ⟨_, rfl⟩
  obtain ⟨W2, hW2⟩ : ∃ W2, W2 = (w.alloc (.cells (jobCs j ao cap) 28)).alloc (.cells (wkCs x) 31) := ⟨_, rfl⟩
  have HB2 := Lib.hid (show Below w.heap.size w W2 by rw [hW2]; exact (ext_alloc w _).alloc (by simp) _)
  have hz2 : w.heap.size + 2 ≤ W2.heap.size := by rw [hW2]; simp
  have HS2 := Lib.hid (show WMS w.heap.size (jobCs j ao cap) (wkCs x) W2 by rw [hW2]; exact ⟨heap_alloc2_old _ _ _, heap_alloc2_new _ _ _⟩)
  have q4 : W2.cell? ⟨w.heap.size, 4, none⟩ = some (.slice ao n cap) := by rw [cell_of_row W2 _ 4 _ _ (0, 0) HS2.out.1, hn]; rfl
  obtain ⟨_, _, x2, x3, _, _, x6⟩ := wk_cells HS2.out.2
  by_cases hl : n ≤ 300
  · have g1 : decide (300 < (n : Int)) = false := decide_eq_false (by omega)
    have g1' : decide (300 < n) = false := decide_eq_false (by omega)
    have HM := Lib.hid (fun W (h : Below w.heap.size w W) => mayw_any j hj ao cap x hx W (by omega) (hsrc.ext h))
    have HR := Lib.hid (fun W (h : Below w.heap.size w W) => rmayw_any j hj ao cap x hx W (by omega) (hsrc.ext h))
    have HW := Lib.hid (where_any x)
    have HIj := Lib.hid (show (Try.prog.info? 28).map (·.size) = some (jobCs j ao cap).size by kernel_rfl)
    have HIw := Lib.hid (show (Try.prog.info? 31).map (·.size) = some (wkCs x).size by kernel_rfl)
    have hxs := hx.state
    clear hl hj hx hsrc hn
    generalize mayW j x = r at *
    go_enter Try.func4, Try.ntmps4
    go_upto_region 1 with fail
    rw [← hW2]
    clear hW2
    generalize jobCs j ao cap = jc at *
    generalize wkCs x = wc at *
    by_cases hst : x.state = 1
    · have s1 : (x.state == 1) = true := by rw [hst]; rfl
      have s2 : ((x.state : Int) == 1) = true := by rw [hst]; rfl
      rw [show (if x.state = 1 then x.prev else x.at_) = x.prev from if_pos hst] at HW
      clear hst
      go_wp2_with fail
      refine wp_region_held (S := WMS w.heap.size jc wc) (by kernel_rfl) ?_
      have hS0 : WMS w.heap.size jc wc W2.drew := HS2.out.keep (ext_drew W2)
      have B0 := Lib.hid (HB2.out.trans ((ext_drew W2).mono HB2.out.size))
      change wpAnyH _ _ _ _ _ _ _ _ (World.drew _)
      refine wpAnyH_take (i := 0) (oi := ⟨some 18, _, _, _, _, _⟩) (v := .agg jc) rfl (by kernel_rfl) (by kernel_rfl) (by kernel_rfl) (fun _ _ _ h => h) (yieldsIf_row rfl _ _ rfl w.heap.size rfl 28 jc (0, 0) _ (fun _ h => h.1) Try.underlying28 rfl HIj.out) hS0 ?_
      simp only [Act.put, List.setIfInBounds_toArray, List.set_cons_zero, List.set_cons_succ]
      refine wpAnyH_take (i := 1) (oi := ⟨some 19, _, _, _, _, _⟩) (v := .agg wc) rfl (by kernel_rfl) (by kernel_rfl) (by kernel_rfl) (fun _ _ _ h => h) (yieldsIf_row rfl _ _ rfl (w.heap.size + 1) rfl 31 wc (0, 0) _ (fun _ h => h.2) Try.underlying31 rfl HIw.out) hS0 ?_
      simp only [Act.put, List.setIfInBounds_toArray, List.set_cons_zero, List.set_cons_succ]
      refine wpAnyH_take (i := 3) (oi := ⟨some 21, _, _, _, _, _⟩) (v := .agg jc) rfl (by kernel_rfl) (by kernel_rfl) (by kernel_rfl) (fun _ _ _ h => h) (yieldsIf_row rfl _ _ rfl w.heap.size rfl 28 jc (0, 0) _ (fun _ h => h.1) Try.underlying28 rfl HIj.out) hS0 ?_
      simp only [Act.put, List.setIfInBounds_toArray, List.set_cons_zero, List.set_cons_succ]
      refine wpAnyH_take (i := 4) (oi := ⟨some 22, _, _, _, _, _⟩) (v := .agg wc) rfl (by kernel_rfl) (by kernel_rfl) (by kernel_rfl) (fun _ _ _ h => h) (yieldsIf_row rfl _ _ rfl (w.heap.size + 1) rfl 31 wc (0, 0) _ (fun _ h => h.2) Try.underlying31 rfl HIw.out) hS0 ?_
      simp only [Act.put, List.setIfInBounds_toArray, List.set_cons_zero, List.set_cons_succ]
      refine wpAnyH_all (rs := [2]) (by kernel_rfl) (by simp) ?_
      intro i hi
      rw [List.mem_singleton] at hi
      subst hi
      refine wpOp_runW (o := ⟨some 20, _, _, _, _, _⟩) rfl rfl fun K' hK => ?_
      go_simp
      refine ((HM.out _ B0.out)).mono ?_
      rintro e w3 ⟨rfl, hB⟩
      have hS1 := WMS.keep hS0 hB
      have B3 := Lib.hid (B0.out.trans (hB.mono B0.out.size))
      clear hB hS0
      have hS0 := hS1
      clear hS1
      refine hK _ _ ⟨hS0, ?_⟩
      clear hK K'
      try simp only [Act.put, List.setIfInBounds_toArray, List.set_cons_zero, List.set_cons_succ]
      refine wpAnyH_all (rs := [5]) (by kernel_rfl) (by simp) ?_
      intro i hi
      rw [List.mem_singleton] at hi
      subst hi
      refine wpOp_runW (o := ⟨some 23, _, _, _, _, _⟩) rfl rfl fun K' hK => ?_
      go_simp
      refine ((HR.out _ B3.out)).mono ?_
      rintro e w4 ⟨rfl, hB⟩
      have hS1 := WMS.keep hS0 hB
      have B4 := Lib.hid (B3.out.trans (hB.mono B3.out.size))
      clear hB hS0
      have hS0 := hS1
      clear hS1
      refine hK _ _ ⟨hS0, ?_⟩
      clear hK K'
      try simp only [Act.put, List.setIfInBounds_toArray, List.set_cons_zero, List.set_cons_succ]
      refine wpAnyH_take (i := 6) (oi := ⟨some 24, _, _, _, _, _⟩) (v := ?_) rfl (by kernel_rfl) (by kernel_rfl) (by kernel_rfl) (fun _ _ _ h => h) (Or.inl ⟨by rfl, ?_⟩) hS0 ?_
      rotate_left
      · (intro w' hSw; clear hSw; go_simp; try (with_reducible rfl))
      simp only [Act.put, List.setIfInBounds_toArray, List.set_cons_zero, List.set_cons_succ]
      refine wpAnyH_take (i := 7) (oi := ⟨some 25, _, _, _, _, _⟩) (v := ?_) rfl (by kernel_rfl) (by kernel_rfl) (by kernel_rfl) (fun _ _ _ h => h) (Or.inl ⟨by rfl, ?_⟩) hS0 ?_
      rotate_left
      · (intro w' hSw; clear hSw; go_simp; try (with_reducible rfl))
      simp only [Act.put, List.setIfInBounds_toArray, List.set_cons_zero, List.set_cons_succ]
      refine wpAnyH_take (i := 8) (oi := ⟨some 26, _, _, _, _, _⟩) (v := .agg wc) rfl (by kernel_rfl) (by kernel_rfl) (by kernel_rfl) (fun _ _ _ h => h) (yieldsIf_row rfl _ _ rfl (w.heap.size + 1) rfl 31 wc (0, 0) _ (fun _ h => h.2) Try.underlying31 rfl HIw.out) hS0 ?_
      simp only [Act.put, List.setIfInBounds_toArray, List.set_cons_zero, List.set_cons_succ]
      refine wpAnyH_take (i := 10) (oi := ⟨some 28, _, _, _, _, _⟩) (v := ?_) rfl (by kernel_rfl) (by kernel_rfl) (by kernel_rfl) (fun _ _ _ h => h) (Or.inl ⟨by rfl, ?_⟩) hS0 ?_
      rotate_left
      · (intro w' hSw; clear hSw; go_simp; try (with_reducible rfl))
      simp only [Act.put, List.setIfInBounds_toArray, List.set_cons_zero, List.set_cons_succ]
      refine wpAnyH_all (rs := [9]) (by kernel_rfl) (by simp) ?_
      intro i hi
      rw [List.mem_singleton] at hi
      subst hi
      refine wpOp_runW (o := ⟨some 27, _, _, _, _, _⟩) rfl rfl fun K' hK => ?_
      go_simp
      refine ((HW.out _)).mono ?_
      rintro e w5 ⟨rfl, hB⟩
      have hS1 := WMS.keep hS0 hB
      have B5 := Lib.hid (B4.out.trans (hB.mono B4.out.size))
      clear hB hS0
      have hS0 := hS1
      clear hS1
      refine hK _ _ ⟨hS0, ?_⟩
      clear hK K'
      try simp only [Act.put, List.setIfInBounds_toArray, List.set_cons_zero, List.set_cons_succ]
      refine wpAnyH_take (i := 11) (oi := ⟨some 29, _, _, _, _, _⟩) (v := ?_) rfl (by kernel_rfl) (by kernel_rfl) (by kernel_rfl) (fun _ _ _ h => h) (Or.inl ⟨by rfl, ?_⟩) hS0 ?_
      rotate_left
      · (intro w' hSw; clear hSw; go_simp; try (with_reducible rfl))
      simp only [Act.put, List.setIfInBounds_toArray, List.set_cons_zero, List.set_cons_succ]
      refine wpAnyH_take (i := 12) (oi := ⟨some 30, _, _, _, _, _⟩) (v := ?_) rfl (by kernel_rfl) (by kernel_rfl) (by kernel_rfl) (fun _ _ _ h => h) (Or.inl ⟨by rfl, ?_⟩) hS0 ?_
      rotate_left
      · (intro w' hSw; clear hSw; go_simp; try (with_reducible rfl))
      simp only [Act.put, List.setIfInBounds_toArray, List.set_cons_zero, List.set_cons_succ]
      refine wpAnyH_take (i := 13) (oi := ⟨some 31, _, _, _, _, _⟩) (v := ?_) rfl (by kernel_rfl) (by kernel_rfl) (by kernel_rfl) (fun _ _ _ h => h) (Or.inl ⟨by rfl, ?_⟩) hS0 ?_
      rotate_left
      · (intro w' hSw; clear hSw; go_simp; try (with_reducible rfl))
      simp only [Act.put, List.setIfInBounds_toArray, List.set_cons_zero, List.set_cons_succ]
      refine wpAnyH_all (rs := [14]) (by kernel_rfl) (by simp) ?_
      intro i hi
      rw [List.mem_singleton] at hi
      subst hi
      refine wpOp_runW (o := ⟨some 32, _, _, _, _, _⟩) rfl rfl fun K' hK => ?_
      go_simp
      refine ((HA.out _)).mono ?_
      rintro e w6 ⟨rfl, hB⟩
      have hS1 := WMS.keep hS0 hB
      have B6 := Lib.hid (B5.out.trans (hB.mono B5.out.size))
      clear hB hS0
      have hS0 := hS1
      clear hS1
      refine hK _ _ ⟨hS0, ?_⟩
      clear hK K'
      try simp only [Act.put, List.setIfInBounds_toArray, List.set_cons_zero, List.set_cons_succ]
      refine wpAnyH_take (i := 15) (oi := ⟨some 33, _, _, _, _, _⟩) (v := ?_) rfl (by kernel_rfl) (by kernel_rfl) (by kernel_rfl) (fun _ _ _ h => h) (Or.inl ⟨by rfl, ?_⟩) hS0 ?_
      rotate_left
      · (intro w' hSw; clear hSw; go_simp; try (with_reducible rfl))
      simp only [Act.put, List.setIfInBounds_toArray, List.set_cons_zero, List.set_cons_succ]
      refine wpAnyH_take (i := 16) (oi := ⟨some 4, _, _, _, _, _⟩) (v := ?_) rfl (by kernel_rfl) (by kernel_rfl) (by kernel_rfl) (fun _ _ _ h => h) (Or.inl ⟨by rfl, ?_⟩) hS0 ?_
      rotate_left
      · (intro w' hSw; clear hSw; go_simp; try (with_reducible rfl))
      simp only [Act.put, List.setIfInBounds_toArray, List.set_cons_zero, List.set_cons_succ]
      refine wpAnyH_done (by kernel_rfl) ?_ _
      go_wp2_with fail
      go_ret
      exact ⟨rfl, B6.out⟩
    · have s1 : (x.state == 1) = false := beq_eq_false_iff_ne.2 hst
      have s2 : ((x.state : Int) == 1) = false := beq_eq_false_iff_ne.2 (by omega)
      rw [show (if x.state = 1 then x.prev else x.at_) = x.at_ from if_neg hst] at HW
      clear hst
      go_wp2_with fail
      refine wp_region_held (S := WMS w.heap.size jc wc) (by kernel_rfl) ?_
      have hS0 : WMS w.heap.size jc wc W2.drew := HS2.out.keep (ext_drew W2)
      have B0 := Lib.hid (HB2.out.trans ((ext_drew W2).mono HB2.out.size))
      change wpAnyH _ _ _ _ _ _ _ _ (World.drew _)
      refine wpAnyH_take (i := 0) (oi := ⟨some 18, _, _, _, _, _⟩) (v := .agg jc) rfl (by kernel_rfl) (by kernel_rfl) (by kernel_rfl) (fun _ _ _ h => h) (yieldsIf_row rfl _ _ rfl w.heap.size rfl 28 jc (0, 0) _ (fun _ h => h.1) Try.underlying28 rfl HIj.out) hS0 ?_
      simp only [Act.put, List.setIfInBounds_toArray, List.set_cons_zero, List.set_cons_succ]
      refine wpAnyH_take (i := 1) (oi := ⟨some 19, _, _, _, _, _⟩) (v := .agg wc) rfl (by kernel_rfl) (by kernel_rfl) (by kernel_rfl) (fun _ _ _ h => h) (yieldsIf_row rfl _ _ rfl (w.heap.size + 1) rfl 31 wc (0, 0) _ (fun _ h => h.2) Try.underlying31 rfl HIw.out) hS0 ?_
      simp only [Act.put, List.setIfInBounds_toArray, List.set_cons_zero, List.set_cons_succ]
      refine wpAnyH_take (i := 3) (oi := ⟨some 21, _, _, _, _, _⟩) (v := .agg jc) rfl (by kernel_rfl) (by kernel_rfl) (by kernel_rfl) (fun _ _ _ h => h) (yieldsIf_row rfl _ _ rfl w.heap.size rfl 28 jc (0, 0) _ (fun _ h => h.1) Try.underlying28 rfl HIj.out) hS0 ?_
      simp only [Act.put, List.setIfInBounds_toArray, List.set_cons_zero, List.set_cons_succ]
      refine wpAnyH_take (i := 4) (oi := ⟨some 22, _, _, _, _, _⟩) (v := .agg wc) rfl (by kernel_rfl) (by kernel_rfl) (by kernel_rfl) (fun _ _ _ h => h) (yieldsIf_row rfl _ _ rfl (w.heap.size + 1) rfl 31 wc (0, 0) _ (fun _ h => h.2) Try.underlying31 rfl HIw.out) hS0 ?_
      simp only [Act.put, List.setIfInBounds_toArray, List.set_cons_zero, List.set_cons_succ]
      refine wpAnyH_all (rs := [2]) (by kernel_rfl) (by simp) ?_
      intro i hi
      rw [List.mem_singleton] at hi
      subst hi
      refine wpOp_runW (o := ⟨some 20, _, _, _, _, _⟩) rfl rfl fun K' hK => ?_
      go_simp
      refine ((HM.out _ B0.out)).mono ?_
      rintro e w3 ⟨rfl, hB⟩
      have hS1 := WMS.keep hS0 hB
      have B3 := Lib.hid (B0.out.trans (hB.mono B0.out.size))
      clear hB hS0
      have hS0 := hS1
      clear hS1
      refine hK _ _ ⟨hS0, ?_⟩
      clear hK K'
      try simp only [Act.put, List.setIfInBounds_toArray, List.set_cons_zero, List.set_cons_succ]
      refine wpAnyH_all (rs := [5]) (by kernel_rfl) (by simp) ?_
      intro i hi
      rw [List.mem_singleton] at hi
      subst hi
      refine wpOp_runW (o := ⟨some 23, _, _, _, _, _⟩) rfl rfl fun K' hK => ?_
      go_simp
      refine ((HR.out _ B3.out)).mono ?_
      rintro e w4 ⟨rfl, hB⟩
      have hS1 := WMS.keep hS0 hB
      have B4 := Lib.hid (B3.out.trans (hB.mono B3.out.size))
      clear hB hS0
      have hS0 := hS1
      clear hS1
      refine hK _ _ ⟨hS0, ?_⟩
      clear hK K'
      try simp only [Act.put, List.setIfInBounds_toArray, List.set_cons_zero, List.set_cons_succ]
      refine wpAnyH_take (i := 6) (oi := ⟨some 24, _, _, _, _, _⟩) (v := ?_) rfl (by kernel_rfl) (by kernel_rfl) (by kernel_rfl) (fun _ _ _ h => h) (Or.inl ⟨by rfl, ?_⟩) hS0 ?_
      rotate_left
      · (intro w' hSw; clear hSw; go_simp; try (with_reducible rfl))
      simp only [Act.put, List.setIfInBounds_toArray, List.set_cons_zero, List.set_cons_succ]
      refine wpAnyH_take (i := 7) (oi := ⟨some 25, _, _, _, _, _⟩) (v := ?_) rfl (by kernel_rfl) (by kernel_rfl) (by kernel_rfl) (fun _ _ _ h => h) (Or.inl ⟨by rfl, ?_⟩) hS0 ?_
      rotate_left
      · (intro w' hSw; clear hSw; go_simp; try (with_reducible rfl))
      simp only [Act.put, List.setIfInBounds_toArray, List.set_cons_zero, List.set_cons_succ]
      refine wpAnyH_take (i := 8) (oi := ⟨some 26, _, _, _, _, _⟩) (v := .agg wc) rfl (by kernel_rfl) (by kernel_rfl) (by kernel_rfl) (fun _ _ _ h => h) (yieldsIf_row rfl _ _ rfl (w.heap.size + 1) rfl 31 wc (0, 0) _ (fun _ h => h.2) Try.underlying31 rfl HIw.out) hS0 ?_
      simp only [Act.put, List.setIfInBounds_toArray, List.set_cons_zero, List.set_cons_succ]
      refine wpAnyH_take (i := 10) (oi := ⟨some 28, _, _, _, _, _⟩) (v := ?_) rfl (by kernel_rfl) (by kernel_rfl) (by kernel_rfl) (fun _ _ _ h => h) (Or.inl ⟨by rfl, ?_⟩) hS0 ?_
      rotate_left
      · (intro w' hSw; clear hSw; go_simp; try (with_reducible rfl))
      simp only [Act.put, List.setIfInBounds_toArray, List.set_cons_zero, List.set_cons_succ]
      refine wpAnyH_all (rs := [9]) (by kernel_rfl) (by simp) ?_
      intro i hi
      rw [List.mem_singleton] at hi
      subst hi
      refine wpOp_runW (o := ⟨some 27, _, _, _, _, _⟩) rfl rfl fun K' hK => ?_
      go_simp
      refine ((HW.out _)).mono ?_
      rintro e w5 ⟨rfl, hB⟩
      have hS1 := WMS.keep hS0 hB
      have B5 := Lib.hid (B4.out.trans (hB.mono B4.out.size))
      clear hB hS0
      have hS0 := hS1
      clear hS1
      refine hK _ _ ⟨hS0, ?_⟩
      clear hK K'
      try simp only [Act.put, List.setIfInBounds_toArray, List.set_cons_zero, List.set_cons_succ]
      refine wpAnyH_take (i := 11) (oi := ⟨some 29, _, _, _, _, _⟩) (v := ?_) rfl (by kernel_rfl) (by kernel_rfl) (by kernel_rfl) (fun _ _ _ h => h) (Or.inl ⟨by rfl, ?_⟩) hS0 ?_
      rotate_left
      · (intro w' hSw; clear hSw; go_simp; try (with_reducible rfl))
      simp only [Act.put, List.setIfInBounds_toArray, List.set_cons_zero, List.set_cons_succ]
      refine wpAnyH_take (i := 12) (oi := ⟨some 30, _, _, _, _, _⟩) (v := ?_) rfl (by kernel_rfl) (by kernel_rfl) (by kernel_rfl) (fun _ _ _ h => h) (Or.inl ⟨by rfl, ?_⟩) hS0 ?_
      rotate_left
      · (intro w' hSw; clear hSw; go_simp; try (with_reducible rfl))
      simp only [Act.put, List.setIfInBounds_toArray, List.set_cons_zero, List.set_cons_succ]
      refine wpAnyH_take (i := 13) (oi := ⟨some 31, _, _, _, _, _⟩) (v := ?_) rfl (by kernel_rfl) (by kernel_rfl) (by kernel_rfl) (fun _ _ _ h => h) (Or.inl ⟨by rfl, ?_⟩) hS0 ?_
      rotate_left
      · (intro w' hSw; clear hSw; go_simp; try (with_reducible rfl))
      simp only [Act.put, List.setIfInBounds_toArray, List.set_cons_zero, List.set_cons_succ]
      refine wpAnyH_all (rs := [14]) (by kernel_rfl) (by simp) ?_
      intro i hi
      rw [List.mem_singleton] at hi
      subst hi
      refine wpOp_runW (o := ⟨some 32, _, _, _, _, _⟩) rfl rfl fun K' hK => ?_
      go_simp
      refine ((HA.out _)).mono ?_
      rintro e w6 ⟨rfl, hB⟩
      have hS1 := WMS.keep hS0 hB
      have B6 := Lib.hid (B5.out.trans (hB.mono B5.out.size))
      clear hB hS0
      have hS0 := hS1
      clear hS1
      refine hK _ _ ⟨hS0, ?_⟩
      clear hK K'
      try simp only [Act.put, List.setIfInBounds_toArray, List.set_cons_zero, List.set_cons_succ]
      refine wpAnyH_take (i := 15) (oi := ⟨some 33, _, _, _, _, _⟩) (v := ?_) rfl (by kernel_rfl) (by kernel_rfl) (by kernel_rfl) (fun _ _ _ h => h) (Or.inl ⟨by rfl, ?_⟩) hS0 ?_
      rotate_left
      · (intro w' hSw; clear hSw; go_simp; try (with_reducible rfl))
      simp only [Act.put, List.setIfInBounds_toArray, List.set_cons_zero, List.set_cons_succ]
      refine wpAnyH_take (i := 16) (oi := ⟨some 4, _, _, _, _, _⟩) (v := ?_) rfl (by kernel_rfl) (by kernel_rfl) (by kernel_rfl) (fun _ _ _ h => h) (Or.inl ⟨by rfl, ?_⟩) hS0 ?_
      rotate_left
      · (intro w' hSw; clear hSw; go_simp; try (with_reducible rfl))
      simp only [Act.put, List.setIfInBounds_toArray, List.set_cons_zero, List.set_cons_succ]
      refine wpAnyH_done (by kernel_rfl) ?_ _
      go_wp2_with fail
      go_ret
      exact ⟨rfl, B6.out⟩
  · have g1 : decide (300 < (n : Int)) = true := decide_eq_true (by omega)
    have g1' : decide (300 < n) = true := decide_eq_true (by omega)
    clear hn hl
    go_enter Try.func4, Try.ntmps4
    go_upto_region 1 with fail
    rw [← hW2]
    clear hW2
    go_wp2_with (go_at_call 12; refine (HA.out _).mono ?_; rintro e w1 ⟨rfl, hB1⟩; have HB1 := Lib.hid hB1; clear hB1)
    go_ret
    exact ⟨rfl, HB2.out.trans (HB1.out.mono (by omega))⟩
end Go.Proofs.Ytiojilibkdbpdaa
