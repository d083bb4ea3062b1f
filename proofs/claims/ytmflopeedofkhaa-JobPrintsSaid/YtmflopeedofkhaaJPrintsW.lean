/- JobPrints: the walk. -/
import Derived.Test.YtmflopeedofkhaaJTwiceW
import Derived.Test.YtmflopeedofkhaaByAwk
import Derived.Test.YtmflopeedofkhaaJPrintW
import Derived.Deep.RegionHeld
namespace Go.Proofs.Ytmflopeedofkhaa
set_option linter.unusedSimpArgs false
set_option linter.unusedVariables false
set_option maxRecDepth 100000
open Go.RowKit

def PS (jb xb : Nat) (jc xc : Array Value) (bo : Option Addr) (n : Nat) (P : W8) (w' : World) : Prop := w'.heap[jb]? = some (.cells jc 30 (0, 0)) ∧ w'.heap[xb]? = some (.cells xc 30 (0, 0)) ∧ Rd w' bo n (byteVals P)
theorem PS.keep {jb xb : Nat} {jc xc : Array Value} {bo : Option Addr} {n : Nat} {P : W8} {w w' : World} (h : PS jb xb jc xc bo n P w) (hB : Below w.heap.size w w') : PS jb xb jc xc bo n P w' :=
  ⟨(hB.block _ (blk_lt h.1)).trans h.1, (hB.block _ (blk_lt h.2.1)).trans h.2.1, h.2.2.ext hB⟩
set_option maxRecDepth 100000 in
set_option maxHeartbeats 6400000 in
theorem jobPrints_walk (j : JobD) (ok : JobOk j) (ao : Option Addr) (cap : Nat) (w : World) (hr : Rd w ao j.src.length (u32s j.src)) :
    Calls Try.prog 7 #[.agg (jobCs j ao cap)] w (RetB (.bool true) w) := by
  obtain ⟨W0, hW0⟩ : ∃ W0, w.alloc (.cells (jobCs j ao cap) 30) = W0 := ⟨_, rfl⟩
  have B0 := Lib.hid (show Below w.heap.size w W0 by rw [← hW0]; exact ext_alloc w _)
  have R0 := Lib.hid (show W0.heap[w.heap.size]? = some (.cells (jobCs j ao cap) 30 (0, 0)) by rw [← hW0]; exact heap_alloc_new _ _)
  have HS0 := Lib.hid (hr.ext B0.out)
  have HMy := Lib.hid (fun W (hB : Below W0.heap.size W0 W) => rmay_any j ok ao cap W)
  have HA := Lib.hid (fun W => awake19_any W)
  have HW0 := Lib.hid hW0
  have HIj := Lib.hid (jb_info19 j ao cap)
  obtain ⟨jb, hjb⟩ : ∃ jb, jb = w.heap.size := ⟨_, rfl⟩
  have Hjb := Lib.hid hjb
  rw [← hjb] at R0
  have c4 : W0.cell? ⟨jb, 4, none⟩ = some (.slice ao j.src.length cap) := (cell_of_row _ _ _ _ _ _ R0.out).trans rfl
  clear hW0 hjb
  by_cases h1 : 300 < j.src.length
  · have d1 : decide ((300 : Int) < (j.src.length : Int)) = true := decide_eq_true (by omega)
    have d1' : decide (300 < j.src.length) = true := decide_eq_true h1
    generalize j.src.length = n at c4 d1 d1'
    clear h1 hr
    generalize jobCs j ao cap = jc at HW0 R0 HIj ⊢
    go_enter Try.func7, Try.ntmps7
    go_upto_region 1 with fail
    rw [HW0.out, ← Hjb.out]
    go_wp2_with (first
      | (refine wpList_load_rowg rfl 30 _ rfl jb rfl 30 _ (0, 0) _ R0.out Try.underlying30 rfl HIj.out ?_)
      | fail "no"
      | (go_at_call 8; (with_reducible refine (HA.out _).mono ?_); rintro e w8 ⟨rfl, hx⟩; have B8 := Lib.hid hx; clear hx))
    go_ret
    exact ⟨rfl, B0.out.trans (B8.out.mono B0.out.size)⟩
  have d1 : decide ((300 : Int) < (j.src.length : Int)) = false := decide_eq_false (by omega)
  have d1' : decide (300 < j.src.length) = false := decide_eq_false h1
  have HRM := Lib.hid (fun W (hB : Below W0.heap.size W0 W) => HMy.out W hB (by omega) (HS0.out.ext hB))
  have HM := Lib.hid (fun W (hB : Below W0.heap.size W0 W) => may_any j ok ao cap W (HS0.out.ext hB))
  have HWj := Lib.hid (fun W (hB : Below W0.heap.size W0 W) => jwalkers_any j ok ao cap W (by omega) (HS0.out.ext hB))
  have HWr := Lib.hid (fun W (hB : Below W0.heap.size W0 W) => rwalkers_any j ok ao cap W (by omega) (HS0.out.ext hB))
  unfold walkV at HWj HWr
  by_cases hm : mayJ j = true
  case neg =>
    have hm' : mayJ j = false := by simpa using hm
    have HP := Lib.hid (fun W (hB : Below W0.heap.size W0 W) => jprint_no j ok hm' ao cap W (HS0.out.ext hB))
    have hw0 : walkersJ j = 0 := by unfold walkersJ; rw [hm']; rfl
    rw [hm'] at HRM HM
    rw [hw0] at HWj
    generalize j.src.length = n at c4 d1 d1'
    clear h1 hr hm hm' hw0 HMy HWr
    generalize jobCs j ao cap = jc at *
    go_enter Try.func7, Try.ntmps7
    go_upto_region 1 with fail
    rw [HW0.out, ← Hjb.out]
    go_upto_region 5 with (first
      | (refine wpList_load_row rfl 30 _ rfl jb rfl 30 _ (0, 0) _ R0.out Try.underlying30 rfl HIj.out ?_)
      | (go_at_call 16; (with_reducible refine (HP.out _ (Below.refl _ _)).mono ?_); rintro e w1 ⟨rfl, hx⟩; have B1 := Lib.hid hx; have R1 := Lib.hid ((hx.block _ (blk_lt R0.out)).trans R0.out); clear hx)
      | (refine wpList_load_row rfl 30 _ rfl jb rfl 30 _ (0, 0) _ R1.out Try.underlying30 rfl HIj.out ?_)
      | (go_at_call 13; (with_reducible refine (HRM.out _ B1.out).mono ?_); rintro e w2 ⟨rfl, hx⟩; have B2 := Lib.hid (B1.out.trans (hx.mono B1.out.size)); have R2 := Lib.hid ((hx.block _ (blk_lt R1.out)).trans R1.out); clear hx))
    go_wp2_with (first
      | (refine wpList_load_row rfl 30 _ rfl jb rfl 30 _ (0, 0) _ R2.out Try.underlying30 rfl HIj.out ?_)
      | (go_at_call 12; (with_reducible refine (HM.out _ B2.out).mono ?_); rintro e w3 ⟨rfl, hx⟩; have B3 := Lib.hid (B2.out.trans (hx.mono B2.out.size)); have R3 := Lib.hid ((hx.block _ (blk_lt R2.out)).trans R2.out); clear hx)
      | (refine wpList_load_rowg rfl 30 _ rfl jb rfl 30 _ (0, 0) _ R3.out Try.underlying30 rfl HIj.out ?_)
      | (go_at_call 17; (with_reducible refine (HWj.out _ B3.out).mono ?_); rintro e w4 ⟨rfl, hx⟩; have B4 := Lib.hid (B0.out.trans ((B3.out.trans (hx.mono B3.out.size)).mono B0.out.size)); clear hx)
      | (go_at_call 8; (with_reducible refine (HA.out _).mono ?_); rintro e w5 ⟨rfl, hx⟩; have B5 := Lib.hid hx; clear hx))
    go_ret
    exact ⟨rfl, B4.out.trans (B5.out.mono B4.out.size)⟩
  have hk3 := (may_inB ok hm).1
  have HP := Lib.hid (fun W (hB : Below W0.heap.size W0 W) => jprint_yes j ok hm ao cap W (HS0.out.ext hB))
  have HPr := Lib.hid (fun W (hB : Below W0.heap.size W0 W) => rprint19_any j ok hk3 (by omega) ao cap W (HS0.out.ext hB))
  have HSm := Lib.hid (fun so sc W (hB : Below W0.heap.size W0 W) (h : Rd W so j.src.length (u32s j.src)) => rsame19_any j (by omega) so ao sc cap W h (HS0.out.ext hB))
  have hpl := printJ_len j ok hk3
  have hRT := read_print ok hm
  unfold PrintYes at HP
  generalize printJ j = P at *
  have HRd := Lib.hid (fun ao cap W h hc hm => (show Calls Try.prog 9 #[.slice ao P.length cap] W (ReadRet (j, 0, 0) W) from hRT ▸ jread_any P (by omega) ao cap W h hc hm))
  rw [hm] at HRM HM
  generalize j.src.length = n at c4 d1 d1'
  clear h1 hr hm HMy hk3 hpl hRT
  obtain ⟨pn, hpn⟩ : ∃ pn, P.length = pn := ⟨_, rfl⟩
  rw [hpn] at HP HRd
  have HPl := Lib.hid hpn.symm
  generalize walkersJ j = wk at *
  generalize jobCs j ao cap = jc at *
  clear hpn
  go_enter Try.func7, Try.ntmps7
  go_upto_region 1 with fail
  rw [HW0.out, ← Hjb.out]
  go_upto_region 7 with (first
    | (refine wpList_load_row rfl 30 _ rfl jb rfl 30 _ (0, 0) _ R0.out Try.underlying30 rfl HIj.out ?_)
    | (go_at_call 16; (with_reducible refine (HP.out _ (Below.refl _ _)).mono ?_); rintro e w1 ⟨bo, bc, bg, rfl, ho, hx⟩; have Ho1 := Lib.hid ho; have B1 := Lib.hid hx; have R1 := Lib.hid ((hx.block _ (blk_lt R0.out)).trans R0.out); clear hx ho)
    | (refine wpList_load_row rfl 30 _ rfl jb rfl 30 _ (0, 0) _ R1.out Try.underlying30 rfl HIj.out ?_)
    | (go_at_call 13; (with_reducible refine (HRM.out _ B1.out).mono ?_); rintro e w2 ⟨rfl, hx⟩; have B2 := Lib.hid (B1.out.trans (hx.mono B1.out.size)); have R2 := Lib.hid ((hx.block _ (blk_lt R1.out)).trans R1.out); have Ho2 := Lib.hid (Ho1.out.ext hx); clear hx)
    | (go_at_call 9; (with_reducible refine (HRd.out _ _ _ Ho2.out.rd Ho2.out.capLe.1 Ho2.out.capLe.2).mono ?_); rintro e w3 ⟨so, sc, rfl, hx, hy⟩; have HS3 := Lib.hid hx; have B3 := Lib.hid hy; clear hx hy)
    | (refine wpList_store_row rfl 30 (.tmp 5) _ rfl rfl rfl (heap_alloc_new _ _) rfl (jb_info19 _ _ _) (jb_one19 _ _ _) ?_; intro w4 h4 o4; have hB4 : Below w2.heap.size w2 w4 := B3.out.trans (((ext_alloc _ _).trans (o4.below (by simp) (fun k hk e => by omega))).mono B3.out.size); have hB34 : Below w3.heap.size w3 w4 := (ext_alloc _ _).trans (o4.below (by simp) (fun k hk e => by omega)); have X4 := Lib.hid h4; have B4 := Lib.hid (B2.out.trans (hB4.mono B2.out.size)); have R4 := Lib.hid ((hB4.block _ (blk_lt R2.out)).trans R2.out); have Ho4 := Lib.hid (Ho2.out.ext hB4); have HS4 := Lib.hid (HS3.out.ext hB34); clear h4 o4 hB4 hB34))
  obtain ⟨xb, hxb⟩ : ∃ xb, xb = w3.heap.size := ⟨_, rfl⟩
  have HIx := Lib.hid (jb_info19 j so sc)
  have HSx := Lib.hid (fun W (hB : Below w4.heap.size w4 W) => (show Calls Try.prog 11 #[.agg (jobCs j so sc), .agg jc] W (RetB (.bool true) W) from HSm.out so sc W (B4.out.trans (hB.mono B4.out.size)) (HS4.out.ext hB)))
  rw [← hxb] at X4 ⊢
  generalize jobCs j so sc = xc at *
  clear hxb
  refine wp_region_held (S := PS jb xb jc xc bo pn P) (by kernel_rfl) ?_
  have hS0 : PS jb xb jc xc bo pn P w4.drew := PS.keep ⟨R4.out, X4.out, Ho4.out.rd⟩ (ext_drew w4)
  have C0 := Lib.hid (ext_drew w4)
  have B40 := B4
  change wpAnyH _ _ _ _ _ _ _ _ (World.drew _)
  refine wpAnyH_take (i := 0) (oi := ⟨some 47, _, _, _, _, _⟩) (v := .agg jc) rfl (by kernel_rfl) (by kernel_rfl) (by kernel_rfl) (fun _ _ _ h => h) (yieldsIf_row19 rfl _ _ rfl jb rfl 30 jc (0, 0) _ (fun _ h => h.1) Try.underlying30 rfl HIj.out) hS0 ?_
  simp only [Act.put, List.setIfInBounds_toArray, List.set_cons_zero, List.set_cons_succ]
  refine wpAnyH_all (rs := [1]) (by kernel_rfl) (by simp) ?_
  intro i hi
  rw [List.mem_singleton] at hi
  subst hi
  refine wpOp_runG (o := ⟨some 48, _, _, _, _, _⟩) (by rfl) (by rfl) fun K' hK => ?_
  go_simp
  refine (HM.out _ (B40.out.trans (C0.out.mono B40.out.size))).mono ?_
  rintro e w5 ⟨rfl, hB⟩
  have hS1 := PS.keep hS0 hB
  have B5 := Lib.hid (C0.out.trans (hB.mono C0.out.size))
  clear hB hS0
  have hS0 := hS1
  clear hS1
  refine hK _ _ ⟨hS0, ?_⟩
  clear hK K'
  try simp only [Act.put, List.setIfInBounds_toArray, List.set_cons_zero, List.set_cons_succ]
  refine wpAnyH_take (i := 2) (oi := ⟨some 49, _, _, _, _, _⟩) (v := ?_) rfl (by kernel_rfl) (by kernel_rfl) (by kernel_rfl) (fun _ _ _ h => h) (Or.inl ⟨by rfl, ?_⟩) hS0 ?_
  rotate_left
  · (intro w' hSw; clear hSw; go_simp; try (with_reducible rfl))
  simp only [Act.put, List.setIfInBounds_toArray, List.set_cons_zero, List.set_cons_succ]
  refine wpAnyH_take (i := 3) (oi := ⟨some 50, _, _, _, _, _⟩) (v := .agg jc) rfl (by kernel_rfl) (by kernel_rfl) (by kernel_rfl) (fun _ _ _ h => h) (yieldsIf_row19 rfl _ _ rfl jb rfl 30 jc (0, 0) _ (fun _ h => h.1) Try.underlying30 rfl HIj.out) hS0 ?_
  simp only [Act.put, List.setIfInBounds_toArray, List.set_cons_zero, List.set_cons_succ]
  refine wpAnyH_take (i := 5) (oi := ⟨some 52, _, _, _, _, _⟩) (v := .agg jc) rfl (by kernel_rfl) (by kernel_rfl) (by kernel_rfl) (fun _ _ _ h => h) (yieldsIf_row19 rfl _ _ rfl jb rfl 30 jc (0, 0) _ (fun _ h => h.1) Try.underlying30 rfl HIj.out) hS0 ?_
  simp only [Act.put, List.setIfInBounds_toArray, List.set_cons_zero, List.set_cons_succ]
  refine wpAnyH_all (rs := [4]) (by kernel_rfl) (by simp) ?_
  intro i hi
  rw [List.mem_singleton] at hi
  subst hi
  refine wpOp_runG (o := ⟨some 51, _, _, _, _, _⟩) (by rfl) (by rfl) fun K' hK => ?_
  go_simp
  refine (HWj.out _ (B40.out.trans (B5.out.mono B40.out.size))).mono ?_
  rintro e w6 ⟨rfl, hB⟩
  have hS1 := PS.keep hS0 hB
  have B6 := Lib.hid (B5.out.trans (hB.mono B5.out.size))
  clear hB hS0
  have hS0 := hS1
  clear hS1
  refine hK _ _ ⟨hS0, ?_⟩
  clear hK K'
  try simp only [Act.put, List.setIfInBounds_toArray, List.set_cons_zero, List.set_cons_succ]
  refine wpAnyH_all (rs := [6]) (by kernel_rfl) (by simp) ?_
  intro i hi
  rw [List.mem_singleton] at hi
  subst hi
  refine wpOp_runG (o := ⟨some 53, _, _, _, _, _⟩) (by rfl) (by rfl) fun K' hK => ?_
  go_simp
  refine (HWr.out _ (B40.out.trans (B6.out.mono B40.out.size))).mono ?_
  rintro e w7 ⟨rfl, hB⟩
  have hS1 := PS.keep hS0 hB
  have B7 := Lib.hid (B6.out.trans (hB.mono B6.out.size))
  clear hB hS0
  have hS0 := hS1
  clear hS1
  refine hK _ _ ⟨hS0, ?_⟩
  clear hK K'
  try simp only [Act.put, List.setIfInBounds_toArray, List.set_cons_zero, List.set_cons_succ]
  refine wpAnyH_take (i := 7) (oi := ⟨some 54, _, _, _, _, _⟩) (v := ?_) rfl (by kernel_rfl) (by kernel_rfl) (by kernel_rfl) (fun _ _ _ h => h) (Or.inl ⟨by rfl, ?_⟩) hS0 ?_
  rotate_left
  · (intro w' hSw; clear hSw; go_simp; try (with_reducible rfl))
  simp only [Act.put, List.setIfInBounds_toArray, List.set_cons_zero, List.set_cons_succ]
  refine wpAnyH_take (i := 8) (oi := ⟨some 55, _, _, _, _, _⟩) (v := ?_) rfl (by kernel_rfl) (by kernel_rfl) (by kernel_rfl) (fun _ _ _ h => h) (Or.inl ⟨by rfl, ?_⟩) hS0 ?_
  rotate_left
  · (intro w' hSw; clear hSw; go_simp; try (with_reducible rfl))
  simp only [Act.put, List.setIfInBounds_toArray, List.set_cons_zero, List.set_cons_succ]
  refine wpAnyH_take (i := 9) (oi := ⟨some 56, _, _, _, _, _⟩) (v := ?_) rfl (by kernel_rfl) (by kernel_rfl) (by kernel_rfl) (fun _ _ _ h => h) (Or.inl ⟨by rfl, ?_⟩) hS0 ?_
  rotate_left
  · (intro w' hSw; clear hSw; go_simp; try (with_reducible rfl))
  simp only [Act.put, List.setIfInBounds_toArray, List.set_cons_zero, List.set_cons_succ]
  refine wpAnyH_take (i := 10) (oi := ⟨some 57, _, _, _, _, _⟩) (v := ?_) rfl (by kernel_rfl) (by kernel_rfl) (by kernel_rfl) (fun _ _ _ h => h) (Or.inl ⟨by rfl, ?_⟩) hS0 ?_
  rotate_left
  · (intro w' hSw; clear hSw; go_simp; try (with_reducible rfl))
  simp only [Act.put, List.setIfInBounds_toArray, List.set_cons_zero, List.set_cons_succ]
  refine wpAnyH_take (i := 11) (oi := ⟨some 58, _, _, _, _, _⟩) (v := ?_) rfl (by kernel_rfl) (by kernel_rfl) (by kernel_rfl) (fun _ _ _ h => h) (Or.inl ⟨by rfl, ?_⟩) hS0 ?_
  rotate_left
  · (intro w' hSw; clear hSw; go_simp; try (with_reducible rfl))
  simp only [Act.put, List.setIfInBounds_toArray, List.set_cons_zero, List.set_cons_succ]
  refine wpAnyH_take (i := 12) (oi := ⟨some 59, _, _, _, _, _⟩) (v := ?_) rfl (by kernel_rfl) (by kernel_rfl) (by kernel_rfl) (fun _ _ _ h => h) (Or.inl ⟨by rfl, ?_⟩) hS0 ?_
  rotate_left
  · (intro w' hSw; clear hSw; go_simp; try (with_reducible rfl))
  simp only [Act.put, List.setIfInBounds_toArray, List.set_cons_zero, List.set_cons_succ]
  refine wpAnyH_take (i := 13) (oi := ⟨some 60, _, _, _, _, _⟩) (v := ?_) rfl (by kernel_rfl) (by kernel_rfl) (by kernel_rfl) (fun _ _ _ h => h) (Or.inl ⟨by rfl, ?_⟩) hS0 ?_
  rotate_left
  · (intro w' hSw; clear hSw; go_simp; try (with_reducible rfl))
  simp only [Act.put, List.setIfInBounds_toArray, List.set_cons_zero, List.set_cons_succ]
  refine wpAnyH_take (i := 14) (oi := ⟨some 61, _, _, _, _, _⟩) (v := ?_) rfl (by kernel_rfl) (by kernel_rfl) (by kernel_rfl) (fun _ _ _ h => h) (Or.inl ⟨by rfl, ?_⟩) hS0 ?_
  rotate_left
  · (intro w' hSw; clear hSw; go_simp; try (with_reducible rfl))
  simp only [Act.put, List.setIfInBounds_toArray, List.set_cons_zero, List.set_cons_succ]
  refine wpAnyH_take (i := 15) (oi := ⟨some 62, _, _, _, _, _⟩) (v := ?_) rfl (by kernel_rfl) (by kernel_rfl) (by kernel_rfl) (fun _ _ _ h => h) (Or.inl ⟨by rfl, ?_⟩) hS0 ?_
  rotate_left
  · (intro w' hSw; have s2 := hSw.2.2.conv19 HPl.out bc; clear hSw; go_simp; try (with_reducible rfl))
  simp only [Act.put, List.setIfInBounds_toArray, List.set_cons_zero, List.set_cons_succ]
  refine wpAnyH_take (i := 16) (oi := ⟨some 63, _, _, _, _, _⟩) (v := .agg jc) rfl (by kernel_rfl) (by kernel_rfl) (by kernel_rfl) (fun _ _ _ h => h) (yieldsIf_row19 rfl _ _ rfl jb rfl 30 jc (0, 0) _ (fun _ h => h.1) Try.underlying30 rfl HIj.out) hS0 ?_
  simp only [Act.put, List.setIfInBounds_toArray, List.set_cons_zero, List.set_cons_succ]
  refine wpAnyH_all (rs := [17]) (by kernel_rfl) (by simp) ?_
  intro i hi
  rw [List.mem_singleton] at hi
  subst hi
  refine wpOp_runG (o := ⟨some 64, _, _, _, _, _⟩) (by rfl) (by rfl) fun K' hK => ?_
  go_simp
  refine (HPr.out _ (B40.out.trans (B7.out.mono B40.out.size))).mono ?_
  rintro e w8 ⟨rfl, hB⟩
  have hS1 := PS.keep hS0 hB
  have B8 := Lib.hid (B7.out.trans (hB.mono B7.out.size))
  clear hB hS0
  have hS0 := hS1
  clear hS1
  refine hK _ _ ⟨hS0, ?_⟩
  clear hK K'
  try simp only [Act.put, List.setIfInBounds_toArray, List.set_cons_zero, List.set_cons_succ]
  refine wpAnyH_take (i := 18) (oi := ⟨some 65, _, _, _, _, _⟩) (v := ?_) rfl (by kernel_rfl) (by kernel_rfl) (by kernel_rfl) (fun _ _ _ h => h) (Or.inl ⟨by rfl, ?_⟩) hS0 ?_
  rotate_left
  · (intro w' hSw; clear hSw; go_simp; try (with_reducible rfl))
  simp only [Act.put, List.setIfInBounds_toArray, List.set_cons_zero, List.set_cons_succ]
  refine wpAnyH_take (i := 19) (oi := ⟨some 66, _, _, _, _, _⟩) (v := ?_) rfl (by kernel_rfl) (by kernel_rfl) (by kernel_rfl) (fun _ _ _ h => h) (Or.inl ⟨by rfl, ?_⟩) hS0 ?_
  rotate_left
  · (intro w' hSw; clear hSw; go_simp; try (with_reducible rfl))
  simp only [Act.put, List.setIfInBounds_toArray, List.set_cons_zero, List.set_cons_succ]
  refine wpAnyH_take (i := 20) (oi := ⟨some 67, _, _, _, _, _⟩) (v := ?_) rfl (by kernel_rfl) (by kernel_rfl) (by kernel_rfl) (fun _ _ _ h => h) (Or.inl ⟨by rfl, ?_⟩) hS0 ?_
  rotate_left
  · (intro w' hSw; clear hSw; go_simp; try (with_reducible rfl))
  simp only [Act.put, List.setIfInBounds_toArray, List.set_cons_zero, List.set_cons_succ]
  refine wpAnyH_take (i := 21) (oi := ⟨some 68, _, _, _, _, _⟩) (v := ?_) rfl (by kernel_rfl) (by kernel_rfl) (by kernel_rfl) (fun _ _ _ h => h) (Or.inl ⟨by rfl, ?_⟩) hS0 ?_
  rotate_left
  · (intro w' hSw; clear hSw; go_simp; try (with_reducible rfl))
  simp only [Act.put, List.setIfInBounds_toArray, List.set_cons_zero, List.set_cons_succ]
  refine wpAnyH_take (i := 22) (oi := ⟨some 69, _, _, _, _, _⟩) (v := ?_) rfl (by kernel_rfl) (by kernel_rfl) (by kernel_rfl) (fun _ _ _ h => h) (Or.inl ⟨by rfl, ?_⟩) hS0 ?_
  rotate_left
  · (intro w' hSw; clear hSw; go_simp; try (with_reducible rfl))
  simp only [Act.put, List.setIfInBounds_toArray, List.set_cons_zero, List.set_cons_succ]
  refine wpAnyH_take (i := 23) (oi := ⟨some 70, _, _, _, _, _⟩) (v := ?_) rfl (by kernel_rfl) (by kernel_rfl) (by kernel_rfl) (fun _ _ _ h => h) (Or.inl ⟨by rfl, ?_⟩) hS0 ?_
  rotate_left
  · (intro w' hSw; clear hSw; go_simp; try (with_reducible rfl))
  simp only [Act.put, List.setIfInBounds_toArray, List.set_cons_zero, List.set_cons_succ]
  refine wpAnyH_take (i := 24) (oi := ⟨some 71, _, _, _, _, _⟩) (v := ?_) rfl (by kernel_rfl) (by kernel_rfl) (by kernel_rfl) (fun _ _ _ h => h) (Or.inl ⟨by rfl, ?_⟩) hS0 ?_
  rotate_left
  · (intro w' hSw; clear hSw; go_simp; try (with_reducible rfl))
  simp only [Act.put, List.setIfInBounds_toArray, List.set_cons_zero, List.set_cons_succ]
  refine wpAnyH_take (i := 25) (oi := ⟨some 72, _, _, _, _, _⟩) (v := ?_) rfl (by kernel_rfl) (by kernel_rfl) (by kernel_rfl) (fun _ _ _ h => h) (Or.inl ⟨by rfl, ?_⟩) hS0 ?_
  rotate_left
  · (intro w' hSw; clear hSw; go_simp; try (with_reducible rfl))
  simp only [Act.put, List.setIfInBounds_toArray, List.set_cons_zero, List.set_cons_succ]
  refine wpAnyH_take (i := 26) (oi := ⟨some 73, _, _, _, _, _⟩) (v := ?_) rfl (by kernel_rfl) (by kernel_rfl) (by kernel_rfl) (fun _ _ _ h => h) (Or.inl ⟨by rfl, ?_⟩) hS0 ?_
  rotate_left
  · (intro w' hSw; clear hSw; go_simp; try (with_reducible rfl))
  simp only [Act.put, List.setIfInBounds_toArray, List.set_cons_zero, List.set_cons_succ]
  refine wpAnyH_take (i := 27) (oi := ⟨some 74, _, _, _, _, _⟩) (v := ?_) rfl (by kernel_rfl) (by kernel_rfl) (by kernel_rfl) (fun _ _ _ h => h) (Or.inl ⟨by rfl, ?_⟩) hS0 ?_
  rotate_left
  · (intro w' hSw; clear hSw; go_simp; try (with_reducible rfl))
  simp only [Act.put, List.setIfInBounds_toArray, List.set_cons_zero, List.set_cons_succ]
  refine wpAnyH_take (i := 28) (oi := ⟨some 75, _, _, _, _, _⟩) (v := ?_) rfl (by kernel_rfl) (by kernel_rfl) (by kernel_rfl) (fun _ _ _ h => h) (Or.inl ⟨by rfl, ?_⟩) hS0 ?_
  rotate_left
  · (intro w' hSw; clear hSw; go_simp; try (with_reducible rfl))
  simp only [Act.put, List.setIfInBounds_toArray, List.set_cons_zero, List.set_cons_succ]
  refine wpAnyH_take (i := 29) (oi := ⟨some 76, _, _, _, _, _⟩) (v := .agg xc) rfl (by kernel_rfl) (by kernel_rfl) (by kernel_rfl) (fun _ _ _ h => h) (yieldsIf_row19 rfl _ _ rfl xb rfl 30 xc (0, 0) _ (fun _ h => h.2.1) Try.underlying30 rfl HIx.out) hS0 ?_
  simp only [Act.put, List.setIfInBounds_toArray, List.set_cons_zero, List.set_cons_succ]
  refine wpAnyH_take (i := 30) (oi := ⟨some 77, _, _, _, _, _⟩) (v := .agg jc) rfl (by kernel_rfl) (by kernel_rfl) (by kernel_rfl) (fun _ _ _ h => h) (yieldsIf_row19 rfl _ _ rfl jb rfl 30 jc (0, 0) _ (fun _ h => h.1) Try.underlying30 rfl HIj.out) hS0 ?_
  simp only [Act.put, List.setIfInBounds_toArray, List.set_cons_zero, List.set_cons_succ]
  refine wpAnyH_all (rs := [31]) (by kernel_rfl) (by simp) ?_
  intro i hi
  rw [List.mem_singleton] at hi
  subst hi
  refine wpOp_runG (o := ⟨some 78, _, _, _, _, _⟩) (by rfl) (by rfl) fun K' hK => ?_
  go_simp
  refine (HSx.out _ B8.out).mono ?_
  rintro e w9 ⟨rfl, hB⟩
  have hS1 := PS.keep hS0 hB
  have B9 := Lib.hid (B8.out.trans (hB.mono B8.out.size))
  clear hB hS0
  have hS0 := hS1
  clear hS1
  refine hK _ _ ⟨hS0, ?_⟩
  clear hK K'
  try simp only [Act.put, List.setIfInBounds_toArray, List.set_cons_zero, List.set_cons_succ]
  refine wpAnyH_take (i := 32) (oi := ⟨some 79, _, _, _, _, _⟩) (v := ?_) rfl (by kernel_rfl) (by kernel_rfl) (by kernel_rfl) (fun _ _ _ h => h) (Or.inl ⟨by rfl, ?_⟩) hS0 ?_
  rotate_left
  · (intro w' hSw; clear hSw; go_simp; try (with_reducible rfl))
  simp only [Act.put, List.setIfInBounds_toArray, List.set_cons_zero, List.set_cons_succ]
  refine wpAnyH_take (i := 33) (oi := ⟨some 80, _, _, _, _, _⟩) (v := ?_) rfl (by kernel_rfl) (by kernel_rfl) (by kernel_rfl) (fun _ _ _ h => h) (Or.inl ⟨by rfl, ?_⟩) hS0 ?_
  rotate_left
  · (intro w' hSw; clear hSw; go_simp; try (with_reducible rfl))
  simp only [Act.put, List.setIfInBounds_toArray, List.set_cons_zero, List.set_cons_succ]
  refine wpAnyH_all (rs := [34]) (by kernel_rfl) (by simp) ?_
  intro i hi
  rw [List.mem_singleton] at hi
  subst hi
  refine wpOp_runG (o := ⟨some 81, _, _, _, _, _⟩) (by rfl) (by rfl) fun K' hK => ?_
  go_simp
  refine (HA.out _).mono ?_
  rintro e w10 ⟨rfl, hB⟩
  have hS1 := PS.keep hS0 hB
  have B10 := Lib.hid (B9.out.trans (hB.mono B9.out.size))
  clear hB hS0
  have hS0 := hS1
  clear hS1
  refine hK _ _ ⟨hS0, ?_⟩
  clear hK K'
  try simp only [Act.put, List.setIfInBounds_toArray, List.set_cons_zero, List.set_cons_succ]
  refine wpAnyH_take (i := 35) (oi := ⟨some 82, _, _, _, _, _⟩) (v := ?_) rfl (by kernel_rfl) (by kernel_rfl) (by kernel_rfl) (fun _ _ _ h => h) (Or.inl ⟨by rfl, ?_⟩) hS0 ?_
  rotate_left
  · (intro w' hSw; clear hSw; go_simp; try (with_reducible rfl))
  simp only [Act.put, List.setIfInBounds_toArray, List.set_cons_zero, List.set_cons_succ]
  refine wpAnyH_take (i := 36) (oi := ⟨some 2, _, _, _, _, _⟩) (v := ?_) rfl (by kernel_rfl) (by kernel_rfl) (by kernel_rfl) (fun _ _ _ h => h) (Or.inl ⟨by rfl, ?_⟩) hS0 ?_
  rotate_left
  · (intro w' hSw; clear hSw; go_simp; try (with_reducible rfl))
  simp only [Act.put, List.setIfInBounds_toArray, List.set_cons_zero, List.set_cons_succ]
  refine wpAnyH_done (by kernel_rfl) ?_ _
  go_wp2_with fail
  go_ret
  have b4 := B0.out.trans (B40.out.mono B0.out.size)
  exact ⟨rfl, b4.trans (B10.out.mono b4.size)⟩
end Go.Proofs.Ytmflopeedofkhaa
