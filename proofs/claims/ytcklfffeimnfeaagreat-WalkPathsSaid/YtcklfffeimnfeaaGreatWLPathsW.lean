/- WalkPaths: the walk. -/
import Derived.Test.YtcklfffeimnfeaaGreatRefPath
import Derived.Test.YtcklfffeimnfeaaGreatBx13
set_option maxRecDepth 100000
set_option maxHeartbeats 12800000
set_option linter.unusedSimpArgs false
set_option linter.unusedVariables false
namespace Go.Proofs.YtcklfffeimnfeaaGreat
open Go.RowKit

theorem okG_anyP {l : List EdgeD} (hok : ∀ x ∈ l, okE x) : okG (ofM l).1 := by
  by_cases h : (ofM l).2 = 0
  · exact of_fit hok h
  · rcases ofM_cases l hok with ⟨_, h2⟩ | ⟨_, _, h2⟩ | ⟨_, _, R, h2, _⟩
    · rw [h2]; exact ⟨⟨.nil, fun r hr => by cases hr⟩, fun r hr => by cases hr⟩
    · rw [h2]; exact ⟨⟨.nil, fun r hr => by cases hr⟩, fun r hr => by cases hr⟩
    · rw [h2] at h; exact absurd rfl h
theorem paths22_walk (l : List EdgeD) (eo : Option Addr) (ec : Nat) (fp : Nat → Prop) (j : JobD) (hj : JobOk j) (so : Option Addr) (sc id : Nat) (hid : id < 4294967296)
    (w : World) (hsrc : Rd w so j.src.length (u32s j.src)) (hrd : RdS edgeRep fp w eo l) :
    Calls Tryz.prog 3 #[.slice eo l.length ec, .agg (jobCs j so sc), .int .u32 (id : Nat)] w (RetB (.bool true) w) := by
  have HA := Lib.hid awake22_any
  obtain ⟨w1, hw1⟩ : ∃ w1, w.alloc (.cells (jobCs j so sc) 29) = w1 := ⟨_, rfl⟩
  have B1 := Lib.hid (show Below w.heap.size w w1 by rw [← hw1]; exact ext_alloc w _)
  have S1 := Lib.hid (show w1.heap[w.heap.size]? = some (.cells (jobCs j so sc) 29 (0, 0)) by rw [← hw1]; exact heap_alloc_new _ _)
  have HGj := Lib.hid (fun W => great22_any j hj so sc W)
  have HIj := Lib.hid (jb_info2 j so sc)
  have Hw1 := Lib.hid hw1
  have Hsrc := Lib.hid hsrc
  have HPp := Lib.hid (fun (p : Option Nat) (R : List RowD) (W : World) (hR : okG R) (hl : R.length ≤ 1000) (ha : ∀ r ∈ R, r.2.length ≤ 1000) (gfp : Nat → Prop) (hg : GraphIs W gfp p R) (hgf : ∀ b, gfp b → b < W.heap.size) (hB : Below w.heap.size w W) (hs : j.src.length ≤ 1000000) => path_any p R gfp W hR hl ha hg hgf j hj so sc id hid hs (Hsrc.out.ext hB))
  have HQp := Lib.hid (fun (R : List RowD) (ro : Option Addr) (rc : Nat) (rfp : Nat → Prop) (W : World) (hR : okG R) (hl : R.length ≤ 1000) (ha : ∀ r ∈ R, r.2.length ≤ 1000) (hr : RdS rowRep rfp W ro R) (hB : Below w.heap.size w W) (hs : j.src.length ≤ 1000000) (hjl : j.length ≤ 100000) => rpath22_any R ro rc rfp hR hl ha j hj so sc id hid hs hjl W (Hsrc.out.ext hB) hr)
  clear hw1 hsrc
  obtain ⟨jc, hjc⟩ : ∃ jc, jobCs j so sc = jc := ⟨_, rfl⟩
  rw [hjc] at Hw1 S1 HGj HIj HPp HQp ⊢
  clear hjc
  by_cases c1 : 60 < l.length
  · have d1 : decide ((60 : Int) < (l.length : Int)) = true := by simp; omega
    have d1' : decide (60 < l.length) = true := by simp; omega
    clear HPp HQp
    go_enter Tryz.func3, Tryz.ntmps3
    go_upto_region 1 with fail
    rw [Hw1.out]
    go_wp2_with (go_at_call 12; (with_reducible refine (HA.out _).mono ?_); rintro e w9 ⟨rfl, hB⟩; have B9 := Lib.hid (B1.out.trans (hB.mono B1.out.size)); clear hB)
    go_ret
    exact ⟨rfl, B9.out⟩
  have d1 : decide ((60 : Int) < (l.length : Int)) = false := by simp; omega
  have d1' : decide (60 < l.length) = false := by simp; omega
  cases hgj : greatW j with
  | true =>
    rw [hgj] at HGj
    clear HPp HQp
    go_enter Tryz.func3, Tryz.ntmps3
    go_upto_region 1 with fail
    rw [Hw1.out]
    go_wp2_with (first
    | (refine wpList_load_rowg rfl _ _ rfl w.heap.size rfl 29 jc (0, 0) _ S1.out Tryz.underlying29 rfl HIj.out ?_)
    | (go_at_call 11; (with_reducible refine (HGj.out _).mono ?_); rintro e w2 ⟨rfl, hB⟩; have B2 := Lib.hid (B1.out.trans (hB.mono B1.out.size)); clear hB)
    | (go_at_call 12; (with_reducible refine (HA.out _).mono ?_); rintro e w9 ⟨rfl, hB⟩; have B9 := Lib.hid (B2.out.trans (hB.mono B2.out.size)); clear hB))
    go_ret
    exact ⟨rfl, B9.out⟩
  | false =>
  rw [hgj] at HGj
  have hg1 := greatW_no hgj
  have hsl : j.src.length ≤ 1000000 := by omega
  have hokL := hrd.okEs
  have hlen := ofM_len l
  have HOf := Lib.hid (fun W (h : Below w.heap.size w W) => gof_any l eo ec fp W (by omega) hokL (hrd.ext h))
  have HRf := Lib.hid (fun W (h : Below w.heap.size w W) => rof15_any l eo ec fp W (by omega) (hrd.ext h))
  have hR : okG (ofM l).1 := okG_anyP hokL
  obtain ⟨r, hre⟩ : ∃ r, ofM l = r := ⟨_, rfl⟩
  rw [hre] at HOf HRf hlen hR
  obtain ⟨R, er⟩ := r
  simp only at hR hlen
  by_cases her : er ≠ 0
  · have de : ((er : Int) != 0) = true := by simp; omega
    have de' : (er != 0) = true := by simp; omega
    clear HPp HQp hR
    go_enter Tryz.func3, Tryz.ntmps3
    go_upto_region 1 with fail
    rw [Hw1.out]
    go_wp2_with (first
                | (refine wpList_load_rowg rfl _ _ rfl w.heap.size rfl 29 jc (0, 0) _ S1.out Tryz.underlying29 rfl HIj.out ?_)
                | (go_at_call 11; (with_reducible refine (HGj.out _).mono ?_); rintro e w2 ⟨rfl, hB⟩; have S2 := Lib.hid (heap_keep S1.out hB); have B2 := Lib.hid (B1.out.trans (hB.mono B1.out.size)); clear hB)
                | (go_at_call 13; (with_reducible refine (HRf.out _ B2.out).mono ?_); rintro e w3 ⟨ra, rc, rfl, _, _, hrr, hB⟩; have RR3 := Lib.hid hrr; have S3 := Lib.hid (heap_keep S2.out hB); have B3 := Lib.hid (B2.out.trans (hB.mono B2.out.size)); clear hB hrr)
                | (go_at_call 14; (with_reducible refine (HOf.out _ B3.out).mono ?_); rintro e w4 ⟨p, rfl, _, _, hG, hB⟩; have S4 := Lib.hid (heap_keep S3.out hB); have RR4 := Lib.hid (RR3.out.ext hB); have B4 := Lib.hid (B3.out.trans (hB.mono B3.out.size)); have G4 := Lib.hid (hG.mono (fp' := fun k => k < w4.heap.size) (fun b h hl => hl)); clear hG hB)
                | (go_at_call 12; (with_reducible refine (HA.out _).mono ?_); rintro e w9 ⟨rfl, hB⟩; have B9 := Lib.hid (B3.out.trans (hB.mono B3.out.size)); clear hB))
    go_ret
    exact ⟨rfl, B9.out⟩
  obtain rfl : er = 0 := Decidable.of_not_not her
  obtain ⟨F, hF⟩ : ∃ F, pathW R j id = F := ⟨_, rfl⟩
  have hFl : F.length ≤ 21 := by
    rw [← hF]
    unfold pathW
    split
    · have h1 := (walk_pre R j id j.length [(newJ j id).at_]).2
      rw [List.length_singleton] at h1; omega
    · simp
  have HP1 := Lib.hid (fun p W hg hB => HPp.out p R W hR (by omega) (fun r hr => by have := hlen.1 r hr; omega) _ hg (fun _ h => h) hB hsl)
  have HQ1 := Lib.hid (fun ro rc rfp W hr hB => HQp.out R ro rc rfp W hR (by omega) (fun r hr => by have := hlen.1 r hr; omega) hr hB hsl (by omega))
  rw [hF] at HP1 HQ1
  clear hF hre hR HPp HQp hrd her
  go_enter Tryz.func3, Tryz.ntmps3
  go_upto_region 1 with fail
  rw [Hw1.out]
  go_upto_region 7 with (first
                | (refine wpList_load_rowg rfl _ _ rfl w.heap.size rfl 29 jc (0, 0) _ S1.out Tryz.underlying29 rfl HIj.out ?_)
                | (go_at_call 11; (with_reducible refine (HGj.out _).mono ?_); rintro e w2 ⟨rfl, hB⟩; have S2 := Lib.hid (heap_keep S1.out hB); have B2 := Lib.hid (B1.out.trans (hB.mono B1.out.size)); clear hB)
                | (go_at_call 13; (with_reducible refine (HRf.out _ B2.out).mono ?_); rintro e w3 ⟨ra, rc, rfl, _, _, hrr, hB⟩; have RR3 := Lib.hid hrr; have S3 := Lib.hid (heap_keep S2.out hB); have B3 := Lib.hid (B2.out.trans (hB.mono B2.out.size)); clear hB hrr)
                | (go_at_call 14; (with_reducible refine (HOf.out _ B3.out).mono ?_); rintro e w4 ⟨p, rfl, _, _, hG, hB⟩; have S4 := Lib.hid (heap_keep S3.out hB); have RR4 := Lib.hid (RR3.out.ext hB); have B4 := Lib.hid (B3.out.trans (hB.mono B3.out.size)); have G4 := Lib.hid (hG.mono (fp' := fun k => k < w4.heap.size) (fun b h hl => hl)); clear hG hB))
  have HPw := Lib.hid (fun W (h : Below w4.heap.size w4 W) => HP1.out p W ((G4.out.ext h).mono (fun b hb _ => Nat.lt_of_lt_of_le hb h.size)) (B4.out.trans (h.mono B4.out.size)))
  have HQw := Lib.hid (fun W (h : Below w4.heap.size w4 W) => HQ1.out ra rc _ W (RR4.out.ext h) (B4.out.trans (h.mono B4.out.size)))
  obtain ⟨gv, hgv⟩ : ∃ gv, gV p = gv := ⟨_, rfl⟩
  rw [hgv] at HPw ⊢
  clear HP1 HQ1 hgv HOf HRf HGj G4
  refine wp_region_held (S := fun W => W.heap[w.heap.size]? = some (.cells jc 29 (0, 0))) (by kernel_rfl) ?_
  have hS0 : w4.drew.heap[w.heap.size]? = some (.cells jc 29 (0, 0)) := heap_keep S4.out (ext_drew w4)
  have E5 := Lib.hid (ext_drew w4)
  change wpAnyH _ _ _ _ _ _ _ _ (World.drew _)
  refine wpAnyH_take (i := 0) (oi := ⟨some 32, _, _, _, _, _⟩) (v := ?_) rfl (by kernel_rfl) (by kernel_rfl) (by kernel_rfl) (fun _ _ _ h => h) (Or.inl ⟨by rfl, ?_⟩) hS0 ?_
  rotate_left
  · (intro w' hSw; clear hSw; go_simp; try (with_reducible rfl))
  simp only [Act.put, List.setIfInBounds_toArray, List.set_cons_zero, List.set_cons_succ]
  refine wpAnyH_take (i := 1) (oi := ⟨some 33, _, _, _, _, _⟩) (v := ?_) rfl (by kernel_rfl) (by kernel_rfl) (by kernel_rfl) (fun _ _ _ h => h) (Or.inl ⟨by rfl, ?_⟩) hS0 ?_
  rotate_left
  · (intro w' hSw; clear hSw; go_simp; try (with_reducible rfl))
  simp only [Act.put, List.setIfInBounds_toArray, List.set_cons_zero, List.set_cons_succ]
  refine wpAnyH_take (i := 2) (oi := ⟨some 34, _, _, _, _, _⟩) (v := ?_) rfl (by kernel_rfl) (by kernel_rfl) (by kernel_rfl) (fun _ _ _ h => h) (Or.inl ⟨by rfl, ?_⟩) hS0 ?_
  rotate_left
  · (intro w' hSw; clear hSw; go_simp; try (with_reducible rfl))
  simp only [Act.put, List.setIfInBounds_toArray, List.set_cons_zero, List.set_cons_succ]
  refine wpAnyH_take (i := 3) (oi := ⟨some 35, _, _, _, _, _⟩) (v := ?_) rfl (by kernel_rfl) (by kernel_rfl) (by kernel_rfl) (fun _ _ _ h => h) (Or.inl ⟨by rfl, ?_⟩) hS0 ?_
  rotate_left
  · (intro w' hSw; clear hSw; go_simp; try (with_reducible rfl))
  simp only [Act.put, List.setIfInBounds_toArray, List.set_cons_zero, List.set_cons_succ]
  refine wpAnyH_take (i := 4) (oi := ⟨some 36, _, _, _, _, _⟩) (v := .agg jc) rfl (by kernel_rfl) (by kernel_rfl) (by kernel_rfl) (fun _ _ _ h => h) (yieldsIf_row22 rfl _ _ rfl w.heap.size rfl 29 jc (0, 0) _ (fun _ h => h) Tryz.underlying29 rfl HIj.out) hS0 ?_
  simp only [Act.put, List.setIfInBounds_toArray, List.set_cons_zero, List.set_cons_succ]
  refine wpAnyH_take (i := 5) (oi := ⟨some 37, _, _, _, _, _⟩) (v := ?_) rfl (by kernel_rfl) (by kernel_rfl) (by kernel_rfl) (fun _ _ _ h => h) (Or.inl ⟨by rfl, ?_⟩) hS0 ?_
  rotate_left
  · (intro w' hSw; clear hSw; go_simp; try (with_reducible rfl))
  simp only [Act.put, List.setIfInBounds_toArray, List.set_cons_zero, List.set_cons_succ]
  refine wpAnyH_take (i := 7) (oi := ⟨some 39, _, _, _, _, _⟩) (v := ?_) rfl (by kernel_rfl) (by kernel_rfl) (by kernel_rfl) (fun _ _ _ h => h) (Or.inl ⟨by rfl, ?_⟩) hS0 ?_
  rotate_left
  · (intro w' hSw; clear hSw; go_simp; try (with_reducible rfl))
  simp only [Act.put, List.setIfInBounds_toArray, List.set_cons_zero, List.set_cons_succ]
  refine wpAnyH_take (i := 8) (oi := ⟨some 40, _, _, _, _, _⟩) (v := .agg jc) rfl (by kernel_rfl) (by kernel_rfl) (by kernel_rfl) (fun _ _ _ h => h) (yieldsIf_row22 rfl _ _ rfl w.heap.size rfl 29 jc (0, 0) _ (fun _ h => h) Tryz.underlying29 rfl HIj.out) hS0 ?_
  simp only [Act.put, List.setIfInBounds_toArray, List.set_cons_zero, List.set_cons_succ]
  refine wpAnyH_take (i := 9) (oi := ⟨some 41, _, _, _, _, _⟩) (v := ?_) rfl (by kernel_rfl) (by kernel_rfl) (by kernel_rfl) (fun _ _ _ h => h) (Or.inl ⟨by rfl, ?_⟩) hS0 ?_
  rotate_left
  · (intro w' hSw; clear hSw; go_simp; try (with_reducible rfl))
  simp only [Act.put, List.setIfInBounds_toArray, List.set_cons_zero, List.set_cons_succ]
  refine wpAnyH_all (rs := [6]) (by kernel_rfl) (by simp) ?_
  intro i hi
  rw [List.mem_singleton] at hi
  subst hi
  refine wpOp_runW (o := ⟨some 38, _, _, _, _, _⟩) rfl rfl fun K' hK => ?_
  go_simp
  refine (HPw.out _ E5.out).mono ?_
  rintro e w6 ⟨a6, c6, g6, rfl, ho6, _, hB⟩
  have O6 := Lib.hid ho6
  have E6 := Lib.hid (E5.out.trans (hB.mono E5.out.size))
  have hS1 := heap_keep hS0 hB
  clear hS0 hB ho6
  have hS0 := hS1
  clear hS1
  refine hK _ _ ⟨hS0, ?_⟩
  clear hK K'
  try simp only [Act.put, List.setIfInBounds_toArray, List.set_cons_zero, List.set_cons_succ]
  refine wpAnyH_all (rs := [10]) (by kernel_rfl) (by simp) ?_
  intro i hi
  rw [List.mem_singleton] at hi
  subst hi
  refine wpOp_runW (o := ⟨some 42, _, _, _, _, _⟩) rfl rfl fun K' hK => ?_
  go_simp
  refine (HQw.out _ E6.out).mono ?_
  rintro e w7 ⟨a7, c7, g7, rfl, ho7, _, hB⟩
  have O7 := Lib.hid ho7
  have O67 := Lib.hid (O6.out.ext hB)
  have E7 := Lib.hid (E6.out.trans (hB.mono E6.out.size))
  have hS1 := heap_keep hS0 hB
  clear hS0 hB ho7
  have hS0 := hS1
  clear hS1
  refine hK _ _ ⟨hS0, ?_⟩
  clear hK K'
  try simp only [Act.put, List.setIfInBounds_toArray, List.set_cons_zero, List.set_cons_succ]
  refine wpAnyH_all (rs := [11]) (by kernel_rfl) (by simp) ?_
  intro i hi
  rw [List.mem_singleton] at hi
  subst hi
  refine wpOp_runW (o := ⟨some 43, _, _, _, _, _⟩) rfl rfl fun K' hK => ?_
  go_simp
  refine (vsame15_any F a6 a7 c6 c7 w7 (by omega) O67.out.rd O7.out.rd).mono ?_
  rintro e w8 ⟨rfl, qm, rfl⟩
  have E8 := Lib.hid (E7.out.trans ((ext_drewN w7 qm).mono E7.out.size))
  have hS1 := heap_keep hS0 (ext_drewN w7 qm)
  clear hS0
  have hS0 := hS1
  clear hS1
  refine hK _ _ ⟨hS0, ?_⟩
  clear hK K'
  try simp only [Act.put, List.setIfInBounds_toArray, List.set_cons_zero, List.set_cons_succ]
  refine wpAnyH_take (i := 12) (oi := ⟨some 44, _, _, _, _, _⟩) (v := ?_) rfl (by kernel_rfl) (by kernel_rfl) (by kernel_rfl) (fun _ _ _ h => h) (Or.inl ⟨by rfl, ?_⟩) hS0 ?_
  rotate_left
  · (intro w' hSw; clear hSw; go_simp; try (with_reducible rfl))
  simp only [Act.put, List.setIfInBounds_toArray, List.set_cons_zero, List.set_cons_succ]
  refine wpAnyH_take (i := 13) (oi := ⟨some 45, _, _, _, _, _⟩) (v := ?_) rfl (by kernel_rfl) (by kernel_rfl) (by kernel_rfl) (fun _ _ _ h => h) (Or.inl ⟨by rfl, ?_⟩) hS0 ?_
  rotate_left
  · (intro w' hSw; clear hSw; go_simp; try (with_reducible rfl))
  simp only [Act.put, List.setIfInBounds_toArray, List.set_cons_zero, List.set_cons_succ]
  refine wpAnyH_all (rs := [14]) (by kernel_rfl) (by simp) ?_
  intro i hi
  rw [List.mem_singleton] at hi
  subst hi
  refine wpOp_runW (o := ⟨some 46, _, _, _, _, _⟩) rfl rfl fun K' hK => ?_
  go_simp
  refine (HA.out _).mono ?_
  rintro e w9 ⟨rfl, hB⟩
  have B9 := Lib.hid (B4.out.trans ((E8.out.trans (hB.mono E8.out.size)).mono B4.out.size))
  have hS1 := heap_keep hS0 hB
  clear hS0 hB
  have hS0 := hS1
  clear hS1
  refine hK _ _ ⟨hS0, ?_⟩
  clear hK K'
  try simp only [Act.put, List.setIfInBounds_toArray, List.set_cons_zero, List.set_cons_succ]
  refine wpAnyH_take (i := 15) (oi := ⟨some 47, _, _, _, _, _⟩) (v := ?_) rfl (by kernel_rfl) (by kernel_rfl) (by kernel_rfl) (fun _ _ _ h => h) (Or.inl ⟨by rfl, ?_⟩) hS0 ?_
  rotate_left
  · (intro w' hSw; clear hSw; go_simp; try (with_reducible rfl))
  simp only [Act.put, List.setIfInBounds_toArray, List.set_cons_zero, List.set_cons_succ]
  refine wpAnyH_take (i := 16) (oi := ⟨some 6, _, _, _, _, _⟩) (v := ?_) rfl (by kernel_rfl) (by kernel_rfl) (by kernel_rfl) (fun _ _ _ h => h) (Or.inl ⟨by rfl, ?_⟩) hS0 ?_
  rotate_left
  · (intro w' hSw; clear hSw; go_simp; try (with_reducible rfl))
  simp only [Act.put, List.setIfInBounds_toArray, List.set_cons_zero, List.set_cons_succ]
  refine wpAnyH_done (by kernel_rfl) ?_ _
  go_wp2_with fail
  go_ret
  exact ⟨rfl, B9.out⟩
end Go.Proofs.YtcklfffeimnfeaaGreat
