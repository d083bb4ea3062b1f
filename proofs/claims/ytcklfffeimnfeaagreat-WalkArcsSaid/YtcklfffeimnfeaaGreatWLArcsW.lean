/- WalkArcs: the walk. -/
import Derived.Test.YtcklfffeimnfeaaGreatWLArcsT
import Derived.BigQuiet
namespace Go.Proofs.YtcklfffeimnfeaaGreat
set_option linter.unusedSimpArgs false
set_option linter.unusedVariables false
set_option maxRecDepth 100000
open Go.RowKit

set_option maxRecDepth 100000 in
set_option maxHeartbeats 6400000 in
theorem arcs_law (l : List EdgeD) (eo : Option Addr) (ec : Nat) (fp : Nat → Prop) (j : JobD) (hj : JobOk j) (so : Option Addr) (sc id : Nat) (hid : id < 4294967296)
    (w : World) (hsrc : Rd w so j.src.length (u32s j.src)) (hrd : RdS edgeRep fp w eo l) :
    Calls Tryz.prog 4 #[.slice eo l.length ec, .agg (jobCs j so sc), .int .u32 (id : Nat)] w (RetB (.bool true) w) := by
  have HA := Lib.hid awake22_any
  obtain ⟨w1, hw1⟩ : ∃ w1, w.alloc (.cells (jobCs j so sc) 29) = w1 := ⟨_, rfl⟩
  have B1 := Lib.hid (show Below w.heap.size w w1 by rw [← hw1]; exact ext_alloc w _)
  have S1 := Lib.hid (show w1.heap[w.heap.size]? = some (.cells (jobCs j so sc) 29 (0, 0)) by rw [← hw1]; exact heap_alloc_new _ _)
  have HGj := Lib.hid (fun W => great22_any j hj so sc W)
  have HNj := Lib.hid (fun (hs : j.src.length ≤ 1000000) W (h : Below w.heap.size w W) => rnew_any j hj so sc id hid W hs (hsrc.ext h))
  unfold newV at HNj
  have HIj := Lib.hid (jb_info2 j so sc)
  have Hw1 := Lib.hid hw1
  have Hsrc := Lib.hid hsrc
  have Hrd := Lib.hid hrd
  clear hw1 hsrc
  have HPp := Lib.hid (fun (p : Option Nat) (R : List RowD) (W : World) (hR : okG R) (hl : R.length ≤ 1000) (ha : ∀ r ∈ R, r.2.length ≤ 1000) (gfp : Nat → Prop) (hg : GraphIs W gfp p R) (hgf : ∀ b, gfp b → b < W.heap.size) (hB : Below w.heap.size w W) (hs : j.src.length ≤ 1000000) => path_any p R gfp W hR hl ha hg hgf j hj so sc id hid hs (Hsrc.out.ext hB))
  have HC := Lib.hid (fun W (h : W.heap[w.heap.size]? = some (.cells (jobCs j so sc) 29 (0, 0))) => (show W.cell? ⟨w.heap.size, 0, none⟩ = some (.int .u8 (j.kind : Nat)) ∧ W.cell? ⟨w.heap.size, 2, none⟩ = some (.int .u32 (j.length : Nat)) from ⟨cell_of_row W _ 0 _ _ (0, 0) h, cell_of_row W _ 2 _ _ (0, 0) h⟩))
  obtain ⟨jc, hjc⟩ : ∃ jc, jobCs j so sc = jc := ⟨_, rfl⟩
  rw [hjc] at Hw1 S1 HGj HNj HIj HPp HC ⊢
  clear hjc
  by_cases c1 : 60 < l.length
  · have d1 : decide ((60 : Int) < (l.length : Int)) = true := by simp; omega
    have d1' : decide (60 < l.length) = true := by simp; omega
    go_enter Tryz.func4, Tryz.ntmps4
    go_upto_region 1 with fail
    rw [Hw1.out]
    go_wp2_with (go_at_call 12; (with_reducible refine (HA.out _).mono ?_); rintro e w9 ⟨rfl, hB⟩; have B9 := Lib.hid (B1.out.trans (hB.mono B1.out.size)); clear hB)
    go_ret
    exact ⟨rfl, B9.out⟩
  have d1 : decide ((60 : Int) < (l.length : Int)) = false := by simp; omega
  have d1' : decide (60 < l.length) = false := by simp; omega
  cases hgj : greatW j with
  | true =>
    rw [hgj] at HGj
    clear HNj HPp
    go_enter Tryz.func4, Tryz.ntmps4
    go_upto_region 1 with fail
    rw [Hw1.out]
    go_wp2_with (first
    | (refine wpList_load_rowg rfl _ _ rfl w.heap.size rfl 29 jc (0, 0) _ S1.out Tryz.underlying29 rfl HIj.out ?_)
    | (go_at_call 11; (with_reducible refine (HGj.out _).mono ?_); rintro e w2 ⟨rfl, hB⟩; have S2 := Lib.hid (heap_keep S1.out hB); have B2 := Lib.hid (B1.out.trans (hB.mono B1.out.size)); clear hB)
    | (go_at_call 12; (with_reducible refine (HA.out _).mono ?_); rintro e w9 ⟨rfl, hB⟩; have B9 := Lib.hid (B2.out.trans (hB.mono B2.out.size)); clear hB))
    go_ret
    exact ⟨rfl, B9.out⟩
  | false =>
  rw [hgj] at HGj
  have hg1 := greatW_no hgj
  have hsl : j.src.length ≤ 1000000 := by omega
  have HNj := Lib.hid (HNj.out hsl)
  have hokE := hrd.okEs
  have hlen := ofM_len l
  have HOf := Lib.hid (fun W (h : Below w.heap.size w W) => gof_any l eo ec fp W (by omega) hokE (hrd.ext h))
  have hR : (ofM l).2 = 0 → okG (ofM l).1 := of_fit hokE
  have hAE : (ofM l).2 = 0 → ∀ a, ∀ x ∈ arcs15M (ofM l).1 a, ∃ e ∈ l, e.1 = a ∧ e.2.1 = x.1 := fun h a x hx => arcs_edge (R := (ofM l).1) hokE (by rw [← h]) hx
  obtain ⟨r, hre⟩ : ∃ r, ofM l = r := ⟨_, rfl⟩
  rw [hre] at HOf hlen hR hAE
  obtain ⟨R, er⟩ := r
  simp only at hR hlen hAE
  obtain ⟨x, hx⟩ : ∃ x, newJ j id = x := ⟨_, rfl⟩
  have Hx := Lib.hid hx
  rw [hx] at HNj
  have Hz := Lib.hid (fun W : World => heap_alloc_new W (.cells #[.int .u32 0, .int .u32 0, .int .u32 0, .int .u32 0, .int .u32 0, .int .u32 0, .int .u32 0] 44))
  clear hx hre hokE hrd
  by_cases her : er ≠ 0
  · have de : ((er : Int) != 0) = true := by simp; omega
    have de' : (er != 0) = true := by simp; omega
    clear HPp hR hAE
    go_enter Tryz.func4, Tryz.ntmps4
    go_upto_region 1 with fail
    rw [Hw1.out]
    go_wp2_with (first
    | (refine wpList_load_rowg rfl _ _ rfl w.heap.size rfl 29 jc (0, 0) _ S1.out Tryz.underlying29 rfl HIj.out ?_)
    | (go_at_call 11; (with_reducible refine (HGj.out _).mono ?_); rintro e w2 ⟨rfl, hB⟩; have S2 := Lib.hid (heap_keep S1.out hB); have B2 := Lib.hid (B1.out.trans (hB.mono B1.out.size)); clear hB)
    | (go_at_call 14; (with_reducible refine (HOf.out _ B2.out).mono ?_); rintro e w4 ⟨p, rfl, _, _, hG, hB⟩; have S4 := Lib.hid (heap_keep S2.out hB); have B4 := Lib.hid (B2.out.trans (hB.mono B2.out.size)); have G4 := Lib.hid (hG.mono (fp' := fun k => k < w4.heap.size) (fun b h hl => hl)); clear hG hB)
    | (refine wpList_load_row rfl _ _ rfl w.heap.size rfl 29 jc (0, 0) _ S4.out Tryz.underlying29 rfl HIj.out ?_)
    | (go_at_call 18; (with_reducible refine (HNj.out _ B4.out).mono ?_); rintro e w5 ⟨rfl, hB⟩; have S5 := Lib.hid (heap_keep S4.out hB); have B5 := Lib.hid (B4.out.trans (hB.mono B4.out.size)); have G5 := Lib.hid (G4.out.ext hB); have Z5 := Lib.hid hB.size; clear hB)
    | (refine wpList_store_row rfl _ _ _ rfl rfl rfl (Hz.out w5) rfl (show _ = some 7 by kernel_rfl) (by simp [wkCs, Value.oneCell']) ?_; intro w6 hg6 ho6; have hz5 := (Array.getElem?_eq_some_iff.1 S5.out).1; have S6 := Lib.hid ((ho6.same w.heap.size (Nat.lt_of_lt_of_le hz5 (ext_alloc w5 _).size) (fun e => Nat.ne_of_lt hz5 e)).trans (heap_keep S5.out (ext_alloc w5 _))); have B6 := Lib.hid ((B5.out.alloc B5.out.size _).trans (ho6.below (Nat.le_trans B5.out.size (ext_alloc w5 _).size) (fun k hk e => Nat.lt_irrefl _ (Nat.lt_of_le_of_lt (Nat.le_trans B5.out.size (Nat.le_of_eq e.symm)) hk)))); have G6 := Lib.hid ((G5.out.ext (ext_alloc w5 _)).only ho6 (fun b hb hl e => Nat.lt_irrefl _ (Nat.lt_of_lt_of_le (by rw [← e]; exact hb) Z5.out))); have X6 := Lib.hid hg6; have Z6 := Lib.hid (Nat.le_trans (ext_alloc w5 _).size ho6.size); clear hg6 ho6)
    | (go_at_call 12; (with_reducible refine (HA.out _).mono ?_); rintro e w9 ⟨rfl, hB⟩; have B9 := Lib.hid (B6.out.trans (hB.mono B6.out.size)); clear hB))
    go_ret
    exact ⟨rfl, B9.out⟩
  obtain rfl : er = 0 := Decidable.of_not_not her
  have hRk := Lib.hid (hR rfl)
  have HAE := Lib.hid (hAE rfl)
  clear hR hAE
  cases hs : srcH j id with
  | false =>
    rw [hs] at HNj
    clear HPp
    go_enter Tryz.func4, Tryz.ntmps4
    go_upto_region 1 with fail
    rw [Hw1.out]
    go_wp2_with (first
    | (refine wpList_load_rowg rfl _ _ rfl w.heap.size rfl 29 jc (0, 0) _ S1.out Tryz.underlying29 rfl HIj.out ?_)
    | (go_at_call 11; (with_reducible refine (HGj.out _).mono ?_); rintro e w2 ⟨rfl, hB⟩; have S2 := Lib.hid (heap_keep S1.out hB); have B2 := Lib.hid (B1.out.trans (hB.mono B1.out.size)); clear hB)
    | (go_at_call 14; (with_reducible refine (HOf.out _ B2.out).mono ?_); rintro e w4 ⟨p, rfl, _, _, hG, hB⟩; have S4 := Lib.hid (heap_keep S2.out hB); have B4 := Lib.hid (B2.out.trans (hB.mono B2.out.size)); have G4 := Lib.hid (hG.mono (fp' := fun k => k < w4.heap.size) (fun b h hl => hl)); clear hG hB)
    | (refine wpList_load_row rfl _ _ rfl w.heap.size rfl 29 jc (0, 0) _ S4.out Tryz.underlying29 rfl HIj.out ?_)
    | (go_at_call 18; (with_reducible refine (HNj.out _ B4.out).mono ?_); rintro e w5 ⟨rfl, hB⟩; have S5 := Lib.hid (heap_keep S4.out hB); have B5 := Lib.hid (B4.out.trans (hB.mono B4.out.size)); have G5 := Lib.hid (G4.out.ext hB); have Z5 := Lib.hid hB.size; clear hB)
    | (refine wpList_store_row rfl _ _ _ rfl rfl rfl (Hz.out w5) rfl (show _ = some 7 by kernel_rfl) (by simp [wkCs, Value.oneCell']) ?_; intro w6 hg6 ho6; have hz5 := (Array.getElem?_eq_some_iff.1 S5.out).1; have S6 := Lib.hid ((ho6.same w.heap.size (Nat.lt_of_lt_of_le hz5 (ext_alloc w5 _).size) (fun e => Nat.ne_of_lt hz5 e)).trans (heap_keep S5.out (ext_alloc w5 _))); have B6 := Lib.hid ((B5.out.alloc B5.out.size _).trans (ho6.below (Nat.le_trans B5.out.size (ext_alloc w5 _).size) (fun k hk e => Nat.lt_irrefl _ (Nat.lt_of_le_of_lt (Nat.le_trans B5.out.size (Nat.le_of_eq e.symm)) hk)))); have G6 := Lib.hid ((G5.out.ext (ext_alloc w5 _)).only ho6 (fun b hb hl e => Nat.lt_irrefl _ (Nat.lt_of_lt_of_le (by rw [← e]; exact hb) Z5.out))); have X6 := Lib.hid hg6; have Z6 := Lib.hid (Nat.le_trans (ext_alloc w5 _).size ho6.size); clear hg6 ho6)
    | (go_at_call 12; (with_reducible refine (HA.out _).mono ?_); rintro e w9 ⟨rfl, hB⟩; have B9 := Lib.hid (B6.out.trans (hB.mono B6.out.size)); clear hB))
    go_ret
    exact ⟨rfl, B9.out⟩
  | true =>
    rw [hs] at HNj
    obtain ⟨pa1, pa2, pa3, pa4, pa5⟩ := path_arcs hRk.out hs
    obtain ⟨F, hF⟩ : ∃ F, pathW R j id = F := ⟨_, rfl⟩
    have HPp := Lib.hid (fun p W hg hB => HPp.out p R W hRk.out (by omega) (fun r hr => by have := hlen.1 r hr; omega) _ hg (fun _ h => h) hB hsl)
    rw [hF] at HPp pa1 pa2 pa3 pa4 pa5
    rw [Hx.out] at pa2
    have Hpa4 := Lib.hid pa4
    have Hpa5 := Lib.hid pa5
    have Hpa2 := Lib.hid pa2
    have HArc := Lib.hid (fun p v W (hg : GraphIs W (fun b => b < W.heap.size) p R) => garcs_any p R v _ W (by omega) (fun r hr => by have := hlen.1 r hr; omega) hRk.out.1.1 hg)
    clear hF pa4 pa5 pa2 hs
    go_enter Tryz.func4, Tryz.ntmps4
    go_upto_region 1 with fail
    rw [Hw1.out]
    go_upto_region 7 with (first
    | (refine wpList_load_rowg rfl _ _ rfl w.heap.size rfl 29 jc (0, 0) _ S1.out Tryz.underlying29 rfl HIj.out ?_)
    | (go_at_call 11; (with_reducible refine (HGj.out _).mono ?_); rintro e w2 ⟨rfl, hB⟩; have S2 := Lib.hid (heap_keep S1.out hB); have B2 := Lib.hid (B1.out.trans (hB.mono B1.out.size)); clear hB)
    | (go_at_call 14; (with_reducible refine (HOf.out _ B2.out).mono ?_); rintro e w4 ⟨p, rfl, _, _, hG, hB⟩; have S4 := Lib.hid (heap_keep S2.out hB); have B4 := Lib.hid (B2.out.trans (hB.mono B2.out.size)); have G4 := Lib.hid (hG.mono (fp' := fun k => k < w4.heap.size) (fun b h hl => hl)); clear hG hB)
    | (refine wpList_load_row rfl _ _ rfl w.heap.size rfl 29 jc (0, 0) _ S4.out Tryz.underlying29 rfl HIj.out ?_)
    | (go_at_call 18; (with_reducible refine (HNj.out _ B4.out).mono ?_); rintro e w5 ⟨rfl, hB⟩; have S5 := Lib.hid (heap_keep S4.out hB); have B5 := Lib.hid (B4.out.trans (hB.mono B4.out.size)); have G5 := Lib.hid (G4.out.ext hB); have Z5 := Lib.hid hB.size; clear hB)
    | (refine wpList_store_row rfl _ _ _ rfl rfl rfl (Hz.out w5) rfl (show _ = some 7 by kernel_rfl) (by simp [wkCs, Value.oneCell']) ?_; intro w6 hg6 ho6; have hz5 := (Array.getElem?_eq_some_iff.1 S5.out).1; have S6 := Lib.hid ((ho6.same w.heap.size (Nat.lt_of_lt_of_le hz5 (ext_alloc w5 _).size) (fun e => Nat.ne_of_lt hz5 e)).trans (heap_keep S5.out (ext_alloc w5 _))); have B6 := Lib.hid ((B5.out.alloc B5.out.size _).trans (ho6.below (Nat.le_trans B5.out.size (ext_alloc w5 _).size) (fun k hk e => Nat.lt_irrefl _ (Nat.lt_of_le_of_lt (Nat.le_trans B5.out.size (Nat.le_of_eq e.symm)) hk)))); have G6 := Lib.hid ((G5.out.ext (ext_alloc w5 _)).only ho6 (fun b hb hl e => Nat.lt_irrefl _ (Nat.lt_of_lt_of_le (by rw [← e]; exact hb) Z5.out))); have X6 := Lib.hid hg6; have Z6 := Lib.hid (Nat.le_trans (ext_alloc w5 _).size ho6.size); clear hg6 ho6))
    have HPw := Lib.hid (HPp.out p w6 (G6.out.mono (fun b hb _ => by have := Z5.out; have := Z6.out; omega)) B6.out)
    have HAw := Lib.hid (fun v W (hB : Below w6.heap.size w6 W) => HArc.out p v W ((G6.out.ext hB).mono (fun b hb _ => by have := Z5.out; have := Z6.out; have := hB.size; omega)))
    obtain ⟨gv, hgv⟩ : ∃ gv, gV p = gv := ⟨_, rfl⟩
    rw [hgv] at HPw HAw ⊢
    clear hgv HPp HArc HOf HNj HGj
    go_upto_region 8 with (first
      | (refine wpList_load_row rfl _ _ rfl w.heap.size rfl 29 jc (0, 0) _ S6.out Tryz.underlying29 rfl HIj.out ?_)
      | (go_at_call 16; (with_reducible refine HPw.out.mono ?_); rintro e w7 ⟨a7, c7, g7, rfl, ho, _, hB⟩; have P7 := Lib.hid ho.rd; have D7 := Lib.hid hB; have S7 := Lib.hid (heap_keep S6.out hB); have X7 := Lib.hid (heap_keep X6.out hB); have B7 := Lib.hid (B6.out.trans (hB.mono B6.out.size)); clear ho hB))
    obtain ⟨pb, po, rfl, hpb, hc0⟩ := P7.out.u32 0 pa1
    have Hcell := Lib.hid (fun i (hi : i < F.length) => (show w7.cell? ⟨pb, po + i, none⟩ = some (.int .u32 (F[i]! : Nat)) from by
      obtain ⟨b', off, h1, _, h3⟩ := P7.out.u32 i hi
      cases h1
      rw [getElem!_pos F i hi]; exact h3))
    obtain ⟨at_, hat⟩ : ∃ a, x.at_ = a := ⟨_, rfl⟩
    have hcw : w7.cell? ⟨w5.heap.size, 2, none⟩ = some (.int .u32 (at_ : Nat)) := by
      rw [← hat]
      exact cell_of_row w7 w5.heap.size 2 (wkCs x) _ (0, 0) X7.out
    have hp0 := Hpa2.out
    rw [hat] at hp0
    have hc0' : w7.cell? ⟨pb, po, none⟩ = some (.int .u32 (at_ : Nat)) := by
      have := Hcell.out 0 pa1
      rw [Nat.add_zero, hp0] at this
      exact this
    obtain ⟨hck, hcl⟩ := HC.out w7 S7.out
    have HCk := Lib.hid (fun W (hB : Below w7.heap.size w7 W) => HC.out W (heap_keep S7.out hB))
    obtain ⟨n, hn⟩ : ∃ n, F.length = n := ⟨_, rfl⟩
    rw [hn] at pa1 pa3 Hcell Hpa5 ⊢
    have Hpo := Lib.hid (fun i (h1 : 0 < i) (h2 : i < n) => Hpa4.out i h1 (by rw [hn]; exact h2))
    have Hn := Lib.hid hn
    have Hp0 := Lib.hid hp0
    obtain ⟨L, hL⟩ : ∃ L, j.length = L := ⟨_, rfl⟩
    rw [hL] at hcl pa3 Hpa5 HCk
    have hLb : L ≤ 20 := by rw [← hL]; exact hg1.1
    have e0 : ((n : Int) == 0) = false := by simp; omega
    have e0' : (n == 0) = false := by simp; omega
    have i0 : (0 : Int) < (n : Int) := by omega
    have dL : decide ((L : Int) + 1 < (n : Int)) = false := by simp; omega
    have dL' : decide (L + 1 < n) = false := by simp; omega
    have hl60 : l.length ≤ 60 := by omega
    clear Hpa4 Hpa2 hat hn hL hp0 hg1 c1 d1 d1' hgj hc0
    go_quiet (fail)
    go_upto_region 11 with fail
    clear e0 e0' dL dL' hcl hck hcw hc0'
    go_loopw [12] (fun v12 wr => ∃ i : Nat, v12 = .int .i64 (i : Nat) ∧ 1 ≤ i ∧ i ≤ n ∧ Below w7.heap.size w7 wr) (fun v12 _ => n - (intOf v12).toNat)
    case atStart => exact ⟨1, rfl, Nat.le_refl _, pa1, ext_drewN w7 _⟩
    case round =>
      obtain ⟨i, rfl, hi1, hi2, hBr⟩ := hrel
      rename World => wo
      by_cases hlt : i < n
      · have hir : (i : Int) < (n : Int) := by omega
        have di : decide ((i : Int) < (n : Int)) = true := by simp; omega
        have di' : decide (i < n) = true := by simp; omega
        obtain ⟨a, ha⟩ : ∃ a, F[i - 1]! = a := ⟨_, rfl⟩
        obtain ⟨b, hb⟩ : ∃ b, F[i]! = b := ⟨_, rfl⟩
        have Hgo := Lib.hid (show goesT R j at_ a b by have h := Hpo.out i (by omega) hlt; rw [ha, hb, Hp0.out] at h; exact h)
        have hca : w7.cell? ⟨pb, po + ((i : Int) - 1).toNat, none⟩ = some (.int .u32 (a : Nat)) := by
          rw [show ((i : Int) - 1).toNat = i - 1 by omega, ← ha]; exact Hcell.out (i - 1) (by omega)
        have hcb : w7.cell? ⟨pb, po + i, none⟩ = some (.int .u32 (b : Nat)) := by rw [← hb]; exact Hcell.out i hlt
        have hcz : w7.cell? ⟨pb, po, none⟩ = some (.int .u32 (at_ : Nat)) := by
          have := Hcell.out 0 pa1
          rw [Nat.add_zero, Hp0.out] at this
          exact this
        have Hca := Lib.hid hca
        have Hcb := Lib.hid hcb
        have Hcz := Lib.hid hcz
        have HBr := Lib.hid hBr
        clear ha hb hca hcb hcz hBr
        go_upto_region 15 with fail
        go_loopw [13, 14] (fun v13 v14 wr => ∃ k : Nat, k ≤ l.length ∧ v14 = .int .i64 (k : Nat) ∧ v13 = .bool (alongL l a b k) ∧ Below w7.heap.size w7 wr) (fun _ v14 _ => l.length - (intOf v14).toNat)
        case atStart => exact ⟨0, Nat.zero_le _, rfl, by simp [alongL], HBr.out⟩
        case round =>
          obtain ⟨k, hk, rfl, rfl, hBi⟩ := hrel
          rename World => wi
          have HBi := Lib.hid hBi
          have j0 : (0 : Int) ≤ (i : Int) - 1 := by omega
          have j1 : (i : Int) - 1 < (n : Int) := by omega
          by_cases hkl : k < l.length
          · obtain ⟨eb, eoff, rfl, heb, q0, q1, _, _, _, _⟩ := ((Hrd.out.ext B7.out).ext hBi).edgeM k hkl
            have Hsu := Lib.hid (alongL_succ (a := a) (b := b) hkl)
            have hkr : (k : Int) < (l.length : Int) := by omega
            have dk : decide ((k : Int) < (l.length : Int)) = true := by simp; omega
            have dk' : decide (k < l.length) = true := by simp; omega
            have ca := ((bcell hBi).1 pb (po + ((i : Int) - 1).toNat) hpb).trans Hca.out
            have cb := ((bcell hBi).1 pb (po + i) hpb).trans Hcb.out
            have ca' : wi.cell? ⟨pb, po + (i - 1), none⟩ = some (.int .u32 (a : Nat)) := by
              have := ca
              rw [show ((i : Int) - 1).toNat = i - 1 by omega] at this
              exact this
            have hk1 : k + 1 ≤ l.length := hkl
            obtain ⟨y, hy⟩ : ∃ y, l[k] = y := ⟨_, rfl⟩
            rw [hy] at q0 q1 Hsu
            clear hy
            obtain ⟨y0, y1, y2⟩ := y
            simp only at q0 q1 Hsu
            clear hBi
            cases hal : alongL l a b k with
            | true =>
              rw [hal] at Hsu
              go_wp2_with fail
              go_quiet (fail)
              go_wp2_with fail
              go_roundw
              case rel => exact ⟨k + 1, by omega, by go_num, by rw [Hsu.out]; rfl, HBi.out.trans ((ext_drewN _ _).mono HBi.out.size)⟩
              case measure => simp [intOf]; omega
            | false =>
              rw [hal] at Hsu
              by_cases e1 : y0 = a
              · have f1 : ((y0 : Int) == (a : Int)) = true := by simp; omega
                have f1' : (y0 == a) = true := by simp; omega
                by_cases e2 : y1 = b
                · have f2 : ((y1 : Int) == (b : Int)) = true := by simp; omega
                  have f2' : (y1 == b) = true := by simp; omega
                  rw [f1', f2'] at Hsu
                  clear e1 e2
                  go_wp2_with fail
                  go_quiet (fail)
                  go_wp2_with fail
                  go_roundw
                  case rel => exact ⟨k + 1, by omega, by go_num, by rw [Hsu.out]; rfl, HBi.out.trans ((ext_drewN _ _).mono HBi.out.size)⟩
                  case measure => simp [intOf]; omega
                · have f2 : ((y1 : Int) == (b : Int)) = false := by simp; omega
                  have f2' : (y1 == b) = false := by simp; omega
                  rw [f1', f2'] at Hsu
                  clear e1 e2
                  go_wp2_with fail
                  go_quiet (fail)
                  go_wp2_with fail
                  go_roundw
                  case rel => exact ⟨k + 1, by omega, by go_num, by rw [Hsu.out]; rfl, HBi.out.trans ((ext_drewN _ _).mono HBi.out.size)⟩
                  case measure => simp [intOf]; omega
              · have f1 : ((y0 : Int) == (a : Int)) = false := by simp; omega
                have f1' : (y0 == a) = false := by simp; omega
                rw [f1'] at Hsu
                clear e1
                go_wp2_with fail
                go_quiet (fail)
                go_wp2_with fail
                go_roundw
                case rel => exact ⟨k + 1, by omega, by go_num, by rw [Hsu.out]; rfl, HBi.out.trans ((ext_drewN _ _).mono HBi.out.size)⟩
                case measure => simp [intOf]; omega
          · obtain rfl : k = l.length := by omega
            have dk : decide ((l.length : Int) < (l.length : Int)) = false := by simp
            have dk' : decide (l.length < l.length) = false := by simp
            have Hal := Lib.hid (fun (h : ∃ x ∈ arcs15M R a, x.1 = b) => (show alongL l a b l.length = true from by
              obtain ⟨x, hx, e⟩ := h
              obtain ⟨y, hy, e1, e2⟩ := HAE.out a x hx
              exact alongL_all ⟨y, hy, e1, by rw [e2, e]⟩))
            obtain ⟨hck, _⟩ := HCk.out wi hBi
            have cz := ((bcell hBi).1 pb po hpb).trans Hcz.out
            have cb := ((bcell hBi).1 pb (po + i) hpb).trans Hcb.out
            clear hBi
            cases hal : alongL l a b l.length with
            | true =>
              clear hal
              go_wp2_with fail
              go_quiet (fail)
              go_wp2_with fail
              go_roundw
              case rel => exact ⟨i + 1, by go_num, by omega, by omega, HBi.out.trans ((ext_drewN _ _).mono HBi.out.size)⟩
              case measure => simp [intOf]; omega
            | false =>
              rcases Hgo.out with h | ⟨h1, h2⟩
              · have := Hal.out h
                rw [hal] at this
                cases this
              · have f1 : ((j.kind : Int) != 1) = false := by rw [h1]; rfl
                have f1' : (j.kind != 1) = false := by rw [h1]; rfl
                subst h2
                clear hal h1
                go_wp2_with fail
                go_quiet (fail)
                go_wp2_with fail
                go_roundw
                case rel => exact ⟨i + 1, by go_num, by omega, by omega, HBi.out.trans ((ext_drewN _ _).mono HBi.out.size)⟩
                case measure => simp [intOf]; omega
      · obtain rfl : i = n := by omega
        have di : decide ((i : Int) < (i : Int)) = false := by simp
        have di' : decide (i < i) = false := by simp
        obtain ⟨hck, hcl⟩ := HCk.out wo hBr
        obtain ⟨v, hv⟩ : ∃ v, F[i - 1]! = v := ⟨_, rfl⟩
        have cv : wo.cell? ⟨pb, po + ((i : Int) - 1).toNat, none⟩ = some (.int .u32 (v : Nat)) := by
          rw [show ((i : Int) - 1).toNat = i - 1 by omega, ← hv]
          exact ((bcell hBr).1 pb (po + (i - 1)) hpb).trans (Hcell.out (i - 1) (by omega))
        have cv' : wo.cell? ⟨pb, po + (i - 1), none⟩ = some (.int .u32 (v : Nat)) := by
          have := cv
          rw [show ((i : Int) - 1).toNat = i - 1 by omega] at this
          exact this
        have j0 : (0 : Int) ≤ (i : Int) - 1 := by omega
        have j1 : (i : Int) - 1 < (i : Int) := by omega
        have HBr := Lib.hid hBr
        have HAv := Lib.hid (HAw.out v wo (D7.out.trans (hBr.mono D7.out.size)))
        rw [hv] at Hpa5
        clear hBr hv
        by_cases hm1 : i = L + 1
        · have e1 : ((i : Int) == (L : Int) + 1) = true := by simp; omega
          have e1' : (i == L + 1) = true := by simp; omega
          clear hm1 hlt
          go_wp2_with (go_at_call 12; (with_reducible refine (HA.out _).mono ?_); rintro e w17 ⟨rfl, hB⟩; have B17 := Lib.hid (HBr.out.trans (hB.mono HBr.out.size)); clear hB)
          go_ret
          exact ⟨rfl, B7.out.trans (B17.out.mono B7.out.size)⟩
        · have e1 : ((i : Int) == (L : Int) + 1) = false := by simp; omega
          have e1' : (i == L + 1) = false := by simp; omega
          have hor := Hpa5.out.resolve_left hm1
          obtain ⟨q, hq⟩ : ∃ q, arcs15M R v = q := ⟨_, rfl⟩
          rw [hq] at hor HAv
          clear hm1 hlt hq
          by_cases hq0 : q = []
          · subst hq0
            clear hor
            go_wp2_with (first
              | (go_at_call 19; (with_reducible refine HAv.out.mono ?_); rintro e w18 ⟨aa, ac, ag, rfl, _, _, hB⟩; have B18 := Lib.hid (HBr.out.trans (hB.mono HBr.out.size)); clear hB)
              | (go_at_call 12; (with_reducible refine (HA.out _).mono ?_); rintro e w17 ⟨rfl, hB⟩; have B17 := Lib.hid (B18.out.trans (hB.mono B18.out.size)); clear hB))
            go_ret
            exact ⟨rfl, B7.out.trans (B17.out.mono B7.out.size)⟩
          · have hk2 := hor.resolve_left hq0
            have hql : 0 < q.length := List.length_pos_iff.2 hq0
            have e3 : ((q.length : Int) == 0) = false := by simp; omega
            have e3' : (q.length == 0) = false := by simp; omega
            have f1 : ((j.kind : Int) == 2) = true := by rw [hk2]; rfl
            have f1' : (j.kind == 2) = true := by rw [hk2]; rfl
            have HC2 := Lib.hid (fun W (hB : Below w7.heap.size w7 W) => (HCk.out W hB).1)
            clear hor hq0 hk2 hck
            obtain ⟨qn, hqn⟩ : ∃ m, q.length = m := ⟨_, rfl⟩
            rw [hqn] at e3 e3' hql
            go_wp2_with (first
              | (go_at_call 19; (with_reducible refine HAv.out.mono ?_); rintro e w18 ⟨aa, ac, ag, rfl, _, _, hB⟩; have B18 := Lib.hid (HBr.out.trans (hB.mono HBr.out.size)); have hck2 := HC2.out w18 B18.out; rw [hqn]; clear hB)
              | (go_at_call 12; (with_reducible refine (HA.out _).mono ?_); rintro e w17 ⟨rfl, hB⟩; have B17 := Lib.hid (B18.out.trans (hB.mono B18.out.size)); clear hB))
            go_ret
            exact ⟨rfl, B7.out.trans (B17.out.mono B7.out.size)⟩
end Go.Proofs.YtcklfffeimnfeaaGreat
