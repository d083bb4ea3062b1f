/- WalkCycle: the walk. -/
import Derived.Test.YtcklfffeimnfeaaGreatWLCycleT
import Derived.BigQuiet
namespace Go.Proofs.YtcklfffeimnfeaaGreat
set_option linter.unusedSimpArgs false
set_option linter.unusedVariables false
set_option maxRecDepth 100000
open Go.RowKit

theorem elem22 : Elem Tryz.prog 22 48 3 12 (.agg #[.int .u32 0, .int .u32 0, .int .u32 0]) := Elem.mk' Tryz.underlying22 (by kernel_rfl) rfl (by decide)
theorem ok22 {W : World} {fp : Nat → Prop} {x : EdgeD} (h : okE x) : edgeRep.ok W fp x [.int .u32 (x.1 : Nat), .int .u32 (x.2.1 : Nat), .int .u32 (x.2.2 : Nat)] := ⟨[_], [_, _], rfl, ⟨rfl, h.1⟩, [_], [_], rfl, ⟨rfl, h.2.1⟩, ⟨rfl, h.2.2⟩⟩
def cycI (n wg : Nat) (w : World) (v9 v10 : Value) (wr : World) : Prop :=
  ∃ (i : Nat) (ao : Option Addr) (cap : Nat) (g : Option Nat), i ≤ n ∧ v10 = .int .u32 (i : Nat) ∧ v9 = .slice ao i cap ∧ OwnS edgeRep (fun _ => False) wr ao cap g 48 (cycE n wg i) ∧ (∀ k, g = some k → w.heap.size ≤ k) ∧ Below w.heap.size w wr
set_option maxRecDepth 100000 in
set_option maxHeartbeats 6400000 in
theorem cycle_walk (n wg : Nat) (hn8 : n < 256) (hw32 : wg < 4294967296) (j : JobD) (hj : JobOk j) (so : Option Addr) (sc id : Nat) (hid : id < 4294967296)
    (w : World) (hsrc : Rd w so j.src.length (u32s j.src)) :
    Calls Tryz.prog 8 #[.int .u8 (n : Nat), .int .u32 (wg : Nat), .agg (jobCs j so sc), .int .u32 (id : Nat)] w (RetB (.bool true) w) := by
  have HA := Lib.hid awake22_any
  obtain ⟨w1, hw1⟩ : ∃ w1, w.alloc (.cells (jobCs j so sc) 29) = w1 := ⟨_, rfl⟩
  have B1 := Lib.hid (show Below w.heap.size w w1 by rw [← hw1]; exact ext_alloc w _)
  have S1 := Lib.hid (show w1.heap[w.heap.size]? = some (.cells (jobCs j so sc) 29 (0, 0)) by rw [← hw1]; exact heap_alloc_new _ _)
  have HGj := Lib.hid (fun W => great22_any j hj so sc W)
  have HNj := Lib.hid (fun (hs : j.src.length ≤ 1000000) W (h : Below w.heap.size w W) => rnew_any j hj so sc id hid W hs (hsrc.ext h))
  unfold newV at HNj
  have HIj := Lib.hid (jb_info2 j so sc)
  have Hw1 := Lib.hid hw1
  have Hsrc := Lib.hid hsrc
  have HPp := Lib.hid (fun (p : Option Nat) (R : List RowD) (W : World) (hR : okG R) (hl : R.length ≤ 1000) (ha : ∀ r ∈ R, r.2.length ≤ 1000) (gfp : Nat → Prop) (hg : GraphIs W gfp p R) (hgf : ∀ b, gfp b → b < W.heap.size) (hB : Below w.heap.size w W) (hs : j.src.length ≤ 1000000) => path_any p R gfp W hR hl ha hg hgf j hj so sc id hid hs (Hsrc.out.ext hB))
  have HC := Lib.hid (fun W (h : W.heap[w.heap.size]? = some (.cells (jobCs j so sc) 29 (0, 0))) => (show W.cell? ⟨w.heap.size, 0, none⟩ = some (.int .u8 (j.kind : Nat)) ∧ W.cell? ⟨w.heap.size, 2, none⟩ = some (.int .u32 (j.length : Nat)) from ⟨cell_of_row W _ 0 _ _ (0, 0) h, cell_of_row W _ 2 _ _ (0, 0) h⟩))
  clear hw1 hsrc
  obtain ⟨jc, hjc⟩ : ∃ jc, jobCs j so sc = jc := ⟨_, rfl⟩
  rw [hjc] at Hw1 S1 HGj HNj HIj HPp HC ⊢
  clear hjc
  by_cases c1 : n < 3
  · have d1 : decide ((n : Int) < 3) = true := by simp; omega
    have d1' : decide (n < 3) = true := by simp; omega
    go_enter Tryz.func8, Tryz.ntmps8
    go_upto_region 1 with fail
    rw [Hw1.out]
    go_wp2_with (go_at_call 12; (with_reducible refine (HA.out _).mono ?_); rintro e w9 ⟨rfl, hB⟩; have B9 := Lib.hid (B1.out.trans (hB.mono B1.out.size)); clear hB)
    go_ret
    exact ⟨rfl, B9.out⟩
  have d1 : decide ((n : Int) < 3) = false := by simp; omega
  have d1' : decide (n < 3) = false := by simp; omega
  by_cases c2 : 30 < n
  · have d2 : decide ((30 : Int) < (n : Int)) = true := by simp; omega
    have d2' : decide (30 < n) = true := by simp; omega
    go_enter Tryz.func8, Tryz.ntmps8
    go_upto_region 1 with fail
    rw [Hw1.out]
    go_wp2_with (go_at_call 12; (with_reducible refine (HA.out _).mono ?_); rintro e w9 ⟨rfl, hB⟩; have B9 := Lib.hid (B1.out.trans (hB.mono B1.out.size)); clear hB)
    go_ret
    exact ⟨rfl, B9.out⟩
  have d2 : decide ((30 : Int) < (n : Int)) = false := by simp; omega
  have d2' : decide (30 < n) = false := by simp; omega
  by_cases c3 : wg < 1
  · have d3 : decide ((wg : Int) < 1) = true := by simp; omega
    have d3' : decide (wg < 1) = true := by simp; omega
    go_enter Tryz.func8, Tryz.ntmps8
    go_upto_region 1 with fail
    rw [Hw1.out]
    go_wp2_with (go_at_call 12; (with_reducible refine (HA.out _).mono ?_); rintro e w9 ⟨rfl, hB⟩; have B9 := Lib.hid (B1.out.trans (hB.mono B1.out.size)); clear hB)
    go_ret
    exact ⟨rfl, B9.out⟩
  have d3 : decide ((wg : Int) < 1) = false := by simp; omega
  have d3' : decide (wg < 1) = false := by simp; omega
  by_cases c4 : 2147483647 < wg
  · have d4 : decide ((2147483647 : Int) < (wg : Int)) = true := by simp; omega
    have d4' : decide (2147483647 < wg) = true := by simp; omega
    go_enter Tryz.func8, Tryz.ntmps8
    go_upto_region 1 with fail
    rw [Hw1.out]
    go_wp2_with (go_at_call 12; (with_reducible refine (HA.out _).mono ?_); rintro e w9 ⟨rfl, hB⟩; have B9 := Lib.hid (B1.out.trans (hB.mono B1.out.size)); clear hB)
    go_ret
    exact ⟨rfl, B9.out⟩
  have d4 : decide ((2147483647 : Int) < (wg : Int)) = false := by simp; omega
  have d4' : decide (2147483647 < wg) = false := by simp; omega
  cases hgj : greatW j with
  | true =>
    rw [hgj] at HGj
    go_enter Tryz.func8, Tryz.ntmps8
    go_upto_region 1 with fail
    rw [Hw1.out]
    go_wp2_with (first
    | (refine wpList_load_rowg rfl _ _ rfl w.heap.size rfl 29 jc (0, 0) _ S1.out Tryz.underlying29 rfl HIj.out ?_)
    | (go_at_call 11; (with_reducible refine (HGj.out _).mono ?_); rintro e w2 ⟨rfl, hB⟩; have B2 := Lib.hid (B1.out.trans (hB.mono B1.out.size)); clear hB)
    | (go_at_call 12; (with_reducible refine (HA.out _).mono ?_); rintro e w9 ⟨rfl, hB⟩; have B9 := Lib.hid (B2.out.trans (hB.mono B2.out.size)); clear hB))
    go_ret
    exact ⟨rfl, B9.out⟩
  | false =>
  rw [hgj] at HGj
  have hg1 := greatW_no hgj
  by_cases c5 : j.kind = 1
  · have d5 : ((j.kind : Int) == 1) = true := by rw [c5]; rfl
    have d5' : (j.kind == 1) = true := by rw [c5]; rfl
    clear c5
    go_enter Tryz.func8, Tryz.ntmps8
    go_upto_region 1 with fail
    rw [Hw1.out]
    go_wp2_with (first
    | (refine wpList_load_rowg rfl _ _ rfl w.heap.size rfl 29 jc (0, 0) _ S1.out Tryz.underlying29 rfl HIj.out ?_)
    | (go_at_call 11; (with_reducible refine (HGj.out _).mono ?_); rintro e w2 ⟨rfl, hB⟩; have S2 := heap_keep S1.out hB; obtain ⟨ck, _⟩ := HC.out w2 S2; have B2 := Lib.hid (B1.out.trans (hB.mono B1.out.size)); clear hB S2)
    | (go_at_call 12; (with_reducible refine (HA.out _).mono ?_); rintro e w9 ⟨rfl, hB⟩; have B9 := Lib.hid (B2.out.trans (hB.mono B2.out.size)); clear hB))
    go_ret
    exact ⟨rfl, B9.out⟩
  have d5 : ((j.kind : Int) == 1) = false := beq_eq_false_iff_ne.2 (by omega)
  have d5' : (j.kind == 1) = false := beq_eq_false_iff_ne.2 c5
  have hE := elem22
  have hn1 : 0 < n := by omega
  have hsl : j.src.length ≤ 1000000 := by omega
  have HNj := Lib.hid (HNj.out hsl)
  go_enter Tryz.func8, Tryz.ntmps8
  go_upto_region 1 with fail
  rw [Hw1.out]
  go_upto_region 5 with (first
    | (refine wpList_load_rowg rfl _ _ rfl w.heap.size rfl 29 jc (0, 0) _ S1.out Tryz.underlying29 rfl HIj.out ?_)
    | (go_at_call 11; (with_reducible refine (HGj.out _).mono ?_); rintro e w2 ⟨rfl, hB⟩; have S2 := Lib.hid (heap_keep S1.out hB); obtain ⟨ck, _⟩ := HC.out w2 S2.out; have B2 := Lib.hid (B1.out.trans (hB.mono B1.out.size)); clear hB))
  go_loopw [9, 10] (fun v9 v10 wr => cycI n wg w2 v9 v10 wr) (fun _ v10 _ => n - (intOf v10).toNat)
  case atStart => exact ⟨0, some ⟨w2.heap.size, 0, none⟩, 0, some w2.heap.size, Nat.zero_le _, rfl, rfl, ⟨[], Own.emptyAt w2 48 3 w2.heap.size rfl, .nil⟩, fun k hk => Nat.le_of_eq (Option.some.inj hk), ext_alloc w2 _⟩
  case round =>
    obtain ⟨i, ao, cap, g, hi, rfl, rfl, hS, hg, hB⟩ := hrel
    by_cases hlt : i < n
    · have di : decide ((i : Int) < (n : Int)) = true := by simp; omega
      have di' : decide (i < n) = true := by simp; omega
      obtain ⟨css, hown, hall⟩ := hS
      have hcl : (cycE n wg i).length = i := by simp [cycE]
      have hown : Own wr ao cap g 48 3 i css.flatten := by
        rw [hcl] at hown; exact hown
      have Hcl := Lib.hid hcl
      have Hown := Lib.hid hown
      have Hall := Lib.hid hall
      have Hg := Lib.hid hg
      have HB := Lib.hid hB
      have hnz : ¬ (n : Int) = 0 := by omega
      clear hown hall hg hB hcl
      go_wp2_with (at_builtin; refine wpList_app rfl (.tmp 48) (.tmp 57) 22 22 rfl hE (Hown.out.alloc _) rfl rfl (srcManyE Tryz.underlying22 wr [.int .u32 (i : Nat), .int .u32 (((i : Int) + 1) % (n : Int)), .int .u32 (wg : Nat)] _ _ 3 _ rfl rfl (by simp [Value.oneCell'])) (by simp [maxLen]; omega) (by omega) ?_; intro ao3 cap3 g3 w3 ho3 hg3 hon3; obtain ⟨hG, hBB⟩ := app_blocksM Hg.out (HB.out.alloc HB.out.size _) hg3 hon3; have HG := Lib.hid hG; have HBB := Lib.hid hBB; have Ho3 := Lib.hid ho3; have HSZ := Lib.hid (Nat.le_trans (ext_alloc wr _).size hon3.size); clear ho3 hg3 hon3 hG hBB)
      go_roundw
      case rel =>
        refine ⟨i + 1, ao3, cap3, g3, by omega, by go_num, rfl, ?_, HG.out, HBB.out⟩
        have hvz : ((i : Int) + 1) % (n : Int) = (((i + 1) % n : Nat) : Int) := by simp
        have hml : (i + 1) % n < n := Nat.mod_lt _ hn1
        have ho := Ho3.out
        rw [hvz] at ho
        rw [cycE_succ]
        exact OwnS.snoc (w := wr) Hall.out (cs := [.int .u32 (i : Nat), .int .u32 (((i + 1) % n : Nat)), .int .u32 (wg : Nat)]) (ok22 (x := (i, (i + 1) % n, wg)) ⟨by show i < 4294967296; omega, by show (i + 1) % n < 4294967296; omega, hw32⟩) (by rw [Hcl.out]; exact ho) (fun b hb => hb.elim) HSZ.out
      case measure => simp [intOf]; omega
    · obtain rfl : i = n := by omega
      have di : decide ((i : Int) < (i : Int)) = false := by simp
      have di' : decide (i < i) = false := by simp
      have hcl : (cycE i wg i).length = i := by simp [cycE]
      have hof := cyc_rows (wg := wg) hn1 (by omega) (by omega) (by omega)
      have hokE : ∀ x ∈ cycE i wg i, okE x := fun x hx => by
        obtain ⟨k, hk, rfl⟩ := List.mem_map.1 hx
        have := List.mem_range.1 hk
        have : (k + 1) % i < i := Nat.mod_lt _ hn1
        exact ⟨by show k < 4294967296; omega, by show (k + 1) % i < 4294967296; omega, hw32⟩
      have hRk := ofM_okG hokE hof
      have hlenR : (cycR i wg).length ≤ 1000 ∧ ∀ r ∈ cycR i wg, r.2.length ≤ 1000 := ⟨by simp [cycR]; omega, fun r hr => by
        obtain ⟨k, _, rfl⟩ := List.mem_map.1 hr
        simp⟩
      have HOf := Lib.hid (show Calls Tryz.prog 14 #[.slice ao i cap] wr (GraphRet (cycR i wg, 0) wr) from by
        have h := gof_any (cycE i wg i) ao cap _ wr (by omega) hokE hS.rd
        rw [hof, hcl] at h
        exact h)
      have Br := Lib.hid (B2.out.trans (hB.mono B2.out.size))
      have Sr := Lib.hid (heap_keep S2.out hB)
      obtain ⟨x, hx⟩ : ∃ x, newJ j id = x := ⟨_, rfl⟩
      have Hx := Lib.hid hx
      rw [hx] at HNj
      have Hz := Lib.hid (fun W : World => heap_alloc_new W (.cells #[.int .u32 0, .int .u32 0, .int .u32 0, .int .u32 0, .int .u32 0, .int .u32 0, .int .u32 0] 44))
      have HRk := Lib.hid hRk
      have Hcyc := Lib.hid (fun (hs : srcH j id = true) (hat : (newJ j id).at_ < i) => cyc_path (wg := wg) hn1 (by omega) (by omega) c5 hs hat)
      have HPp := Lib.hid (fun p W hg hB => HPp.out p (cycR i wg) W HRk.out hlenR.1 hlenR.2 _ hg (fun _ h => h) hB hsl)
      rw [hx] at Hcyc
      clear hx hS hg hB hof hokE hRk hlenR hcl
      rename World => wr
      cases hs : srcH j id with
      | false =>
        rw [hs] at HNj
        go_wp2_with (first
                | (go_at_call 14; (with_reducible refine HOf.out.mono ?_); rintro e w4 ⟨p, rfl, _, _, hG, hB⟩; have S4 := Lib.hid (heap_keep Sr.out hB); have B4 := Lib.hid (Br.out.trans (hB.mono Br.out.size)); have G4 := Lib.hid (hG.mono (fp' := fun k => k < w4.heap.size) (fun b h hl => hl)); clear hG hB)
                | (refine wpList_load_row rfl _ _ rfl w.heap.size rfl 29 jc (0, 0) _ S4.out Tryz.underlying29 rfl HIj.out ?_)
                | (go_at_call 18; (with_reducible refine (HNj.out _ B4.out).mono ?_); rintro e w5 ⟨rfl, hB⟩; have S5 := Lib.hid (heap_keep S4.out hB); have B5 := Lib.hid (B4.out.trans (hB.mono B4.out.size)); have G5 := Lib.hid (G4.out.ext hB); have Z5 := Lib.hid hB.size; clear hB)
                | (refine wpList_store_row rfl _ _ _ rfl rfl rfl (Hz.out w5) rfl (show _ = some 7 by kernel_rfl) (by simp [wkCs, Value.oneCell']) ?_; intro w6 hg6 ho6; have hz5 := (Array.getElem?_eq_some_iff.1 S5.out).1; have S6 := Lib.hid ((ho6.same w.heap.size (Nat.lt_of_lt_of_le hz5 (ext_alloc w5 _).size) (fun e => Nat.ne_of_lt hz5 e)).trans (heap_keep S5.out (ext_alloc w5 _))); have B6 := Lib.hid ((B5.out.alloc B5.out.size _).trans (ho6.below (Nat.le_trans B5.out.size (ext_alloc w5 _).size) (fun k hk e => Nat.lt_irrefl _ (Nat.lt_of_le_of_lt (Nat.le_trans B5.out.size (Nat.le_of_eq e.symm)) hk)))); have G6 := Lib.hid ((G5.out.ext (ext_alloc w5 _)).only ho6 (fun b hb hl e => Nat.lt_irrefl _ (Nat.lt_of_lt_of_le (by rw [← e]; exact hb) Z5.out))); have X6 := Lib.hid hg6; have Z6 := Lib.hid (Nat.le_trans (ext_alloc w5 _).size ho6.size); have cat : w6.cell? ⟨w5.heap.size, 2, none⟩ = some (.int .u32 (x.at_ : Nat)) := cell_of_row w6 w5.heap.size 2 (wkCs x) _ (0, 0) hg6; clear hg6 ho6)
                | (go_at_call 12; (with_reducible refine (HA.out _).mono ?_); rintro e w9 ⟨rfl, hB⟩; have B9 := Lib.hid (B6.out.trans (hB.mono B6.out.size)); clear hB))
        go_ret
        exact ⟨rfl, B9.out⟩
      | true =>
        rw [hs] at HNj
        by_cases hat : i ≤ x.at_
        · have d6 : decide ((i : Int) ≤ (x.at_ : Int)) = true := by simp; omega
          have d6' : decide (i ≤ x.at_) = true := by simp; omega
          go_wp2_with (first
                | (go_at_call 14; (with_reducible refine HOf.out.mono ?_); rintro e w4 ⟨p, rfl, _, _, hG, hB⟩; have S4 := Lib.hid (heap_keep Sr.out hB); have B4 := Lib.hid (Br.out.trans (hB.mono Br.out.size)); have G4 := Lib.hid (hG.mono (fp' := fun k => k < w4.heap.size) (fun b h hl => hl)); clear hG hB)
                | (refine wpList_load_row rfl _ _ rfl w.heap.size rfl 29 jc (0, 0) _ S4.out Tryz.underlying29 rfl HIj.out ?_)
                | (go_at_call 18; (with_reducible refine (HNj.out _ B4.out).mono ?_); rintro e w5 ⟨rfl, hB⟩; have S5 := Lib.hid (heap_keep S4.out hB); have B5 := Lib.hid (B4.out.trans (hB.mono B4.out.size)); have G5 := Lib.hid (G4.out.ext hB); have Z5 := Lib.hid hB.size; clear hB)
                | (refine wpList_store_row rfl _ _ _ rfl rfl rfl (Hz.out w5) rfl (show _ = some 7 by kernel_rfl) (by simp [wkCs, Value.oneCell']) ?_; intro w6 hg6 ho6; have hz5 := (Array.getElem?_eq_some_iff.1 S5.out).1; have S6 := Lib.hid ((ho6.same w.heap.size (Nat.lt_of_lt_of_le hz5 (ext_alloc w5 _).size) (fun e => Nat.ne_of_lt hz5 e)).trans (heap_keep S5.out (ext_alloc w5 _))); have B6 := Lib.hid ((B5.out.alloc B5.out.size _).trans (ho6.below (Nat.le_trans B5.out.size (ext_alloc w5 _).size) (fun k hk e => Nat.lt_irrefl _ (Nat.lt_of_le_of_lt (Nat.le_trans B5.out.size (Nat.le_of_eq e.symm)) hk)))); have G6 := Lib.hid ((G5.out.ext (ext_alloc w5 _)).only ho6 (fun b hb hl e => Nat.lt_irrefl _ (Nat.lt_of_lt_of_le (by rw [← e]; exact hb) Z5.out))); have X6 := Lib.hid hg6; have Z6 := Lib.hid (Nat.le_trans (ext_alloc w5 _).size ho6.size); have cat : w6.cell? ⟨w5.heap.size, 2, none⟩ = some (.int .u32 (x.at_ : Nat)) := cell_of_row w6 w5.heap.size 2 (wkCs x) _ (0, 0) hg6; clear hg6 ho6)
                | (go_at_call 12; (with_reducible refine (HA.out _).mono ?_); rintro e w9 ⟨rfl, hB⟩; have B9 := Lib.hid (B6.out.trans (hB.mono B6.out.size)); clear hB))
          go_ret
          exact ⟨rfl, B9.out⟩
        have d6 : decide ((i : Int) ≤ (x.at_ : Int)) = false := by simp; omega
        have d6' : decide (i ≤ x.at_) = false := by simp; omega
        obtain ⟨m, hF, hm1, hm2⟩ := Hcyc.out hs (by omega)
        rw [hF] at HPp
        go_upto_region 12 with (first
                | (go_at_call 14; (with_reducible refine HOf.out.mono ?_); rintro e w4 ⟨p, rfl, _, _, hG, hB⟩; have S4 := Lib.hid (heap_keep Sr.out hB); have B4 := Lib.hid (Br.out.trans (hB.mono Br.out.size)); have G4 := Lib.hid (hG.mono (fp' := fun k => k < w4.heap.size) (fun b h hl => hl)); clear hG hB)
                | (refine wpList_load_row rfl _ _ rfl w.heap.size rfl 29 jc (0, 0) _ S4.out Tryz.underlying29 rfl HIj.out ?_)
                | (go_at_call 18; (with_reducible refine (HNj.out _ B4.out).mono ?_); rintro e w5 ⟨rfl, hB⟩; have S5 := Lib.hid (heap_keep S4.out hB); have B5 := Lib.hid (B4.out.trans (hB.mono B4.out.size)); have G5 := Lib.hid (G4.out.ext hB); have Z5 := Lib.hid hB.size; clear hB)
                | (refine wpList_store_row rfl _ _ _ rfl rfl rfl (Hz.out w5) rfl (show _ = some 7 by kernel_rfl) (by simp [wkCs, Value.oneCell']) ?_; intro w6 hg6 ho6; have hz5 := (Array.getElem?_eq_some_iff.1 S5.out).1; have S6 := Lib.hid ((ho6.same w.heap.size (Nat.lt_of_lt_of_le hz5 (ext_alloc w5 _).size) (fun e => Nat.ne_of_lt hz5 e)).trans (heap_keep S5.out (ext_alloc w5 _))); have B6 := Lib.hid ((B5.out.alloc B5.out.size _).trans (ho6.below (Nat.le_trans B5.out.size (ext_alloc w5 _).size) (fun k hk e => Nat.lt_irrefl _ (Nat.lt_of_le_of_lt (Nat.le_trans B5.out.size (Nat.le_of_eq e.symm)) hk)))); have G6 := Lib.hid ((G5.out.ext (ext_alloc w5 _)).only ho6 (fun b hb hl e => Nat.lt_irrefl _ (Nat.lt_of_lt_of_le (by rw [← e]; exact hb) Z5.out))); have X6 := Lib.hid hg6; have Z6 := Lib.hid (Nat.le_trans (ext_alloc w5 _).size ho6.size); have cat : w6.cell? ⟨w5.heap.size, 2, none⟩ = some (.int .u32 (x.at_ : Nat)) := cell_of_row w6 w5.heap.size 2 (wkCs x) _ (0, 0) hg6; clear hg6 ho6))
        have HPw := Lib.hid (HPp.out p w6 (G6.out.mono (fun b hb _ => by have := Z5.out; have := Z6.out; omega)) B6.out)
        obtain ⟨gv, hgv⟩ : ∃ gv, gV p = gv := ⟨_, rfl⟩
        rw [hgv] at HPw ⊢
        go_upto_region 14 with (first
          | (refine wpList_load_row rfl _ _ rfl w.heap.size rfl 29 jc (0, 0) _ S6.out Tryz.underlying29 rfl HIj.out ?_)
          | (go_at_call 16; (with_reducible refine HPw.out.mono ?_); rintro e w7 ⟨a7, c7, g7, rfl, ho, _, hB⟩; have P7 := Lib.hid ho.rd; have S7 := Lib.hid (heap_keep S6.out hB); have X7 := Lib.hid (heap_keep X6.out hB); have B7 := Lib.hid (B6.out.trans (hB.mono B6.out.size)); clear ho hB))
        rw [cycP_len] at P7 ⊢
        have hg20 : j.length ≤ 20 := hg1.1
        obtain ⟨L, hL⟩ : ∃ L, j.length = L := ⟨_, rfl⟩
        rw [hL] at hm1 hm2 hg20
        have hm0 : 0 < m := by omega
        have hrd7 : Rd w7 a7 (cycP x.at_ i m).length (u32s (cycP x.at_ i m)) := by rw [cycP_len]; exact P7.out
        obtain ⟨pb, po, rfl, hpb, -⟩ := hrd7.u32 0 (by rw [cycP_len]; exact hm0)
        have Hcell := Lib.hid (fun q (hq : q < m) => (show w7.cell? ⟨pb, po + q, none⟩ = some (.int .u32 ((x.at_ + q) % i : Nat)) from by
          obtain ⟨b', off, h1, _, h3⟩ := hrd7.u32 q (by rw [cycP_len]; exact hq)
          cases h1
          rw [h3]
          have h4 := cycP_get (s := x.at_) (n := i) hq
          rw [getElem!_pos (cycP x.at_ i m) q (by rw [cycP_len]; exact hq)] at h4
          rw [h4]))
        have HCk := Lib.hid (fun W (hB : Below w7.heap.size w7 W) => HC.out W (heap_keep S7.out hB))
        have HXk := Lib.hid (fun W (hB : Below w7.heap.size w7 W) => (show W.cell? ⟨w5.heap.size, 2, none⟩ = some (.int .u32 (x.at_ : Nat)) from cell_of_row W w5.heap.size 2 (wkCs x) _ (0, 0) (heap_keep X7.out hB)))
        rw [hL] at HCk
        obtain ⟨at_, hate⟩ : ∃ a, x.at_ = a := ⟨_, rfl⟩
        rw [hate] at Hcell HXk hat
        have Hg20 := Lib.hid hg20
        have hnz : ¬ (i : Int) = 0 := by omega
        clear hrd7 hg1 hL hate hF d6 d6' cat HPp HPw HOf hgv hs
        go_loopw [16] (fun v16 wr' => ∃ q : Nat, v16 = .int .i64 (q : Nat) ∧ q ≤ m ∧ Below w7.heap.size w7 wr') (fun v16 _ => m - (intOf v16).toNat)
        case atStart => exact ⟨0, rfl, Nat.zero_le _, Below.refl _ _⟩
        case round =>
          obtain ⟨q, rfl, hq, hBq⟩ := hrel
          rename World => wq
          by_cases hql : q < m
          · have dq : decide ((q : Int) < (m : Int)) = true := by simp; omega
            have dq' : decide (q < m) = true := by simp; omega
            have hqr : (q : Int) < (m : Int) := by omega
            have cp := ((bcell hBq).1 pb (po + q) hpb).trans (Hcell.out q hql)
            have cx := HXk.out wq hBq
            have hvz : ((at_ : Int) + (q : Int)) % (i : Int) = (((at_ + q) % i : Nat) : Int) := by simp
            have hcp : wq.cell? ⟨pb, po + q, none⟩ = some (.int .u32 (((at_ : Int) + (q : Int)) % (i : Int))) := by rw [hvz]; exact cp
            have hne : (((at_ : Int) + (q : Int)) % (i : Int) != ((at_ : Int) + (q : Int)) % (i : Int)) = false := by simp
            have HBq := Lib.hid hBq
            clear cp hvz hBq
            go_wp2_with fail
            go_quiet (fail)
            go_wp2_with fail
            go_roundw
            case rel => exact ⟨q + 1, by go_num, by omega, HBq.out.trans ((ext_drewN _ _).mono HBq.out.size)⟩
            case measure => simp [intOf]; omega
          · obtain rfl : q = m := by omega
            have dq : decide ((q : Int) < (q : Int)) = false := by simp
            have dq' : decide (q < q) = false := by simp
            obtain ⟨ck, cl⟩ := HCk.out wq hBq
            have HBq := Lib.hid hBq
            clear hBq
            by_cases he : q = L + 1
            · have e1 : ((q : Int) == (L : Int) + 1) = true := by simp; omega
              have e1' : (q == L + 1) = true := by simp; omega
              clear he hm2
              go_wp2_with (go_at_call 12; (with_reducible refine (HA.out _).mono ?_); rintro e w17 ⟨rfl, hB⟩; have B17 := Lib.hid (HBq.out.trans (hB.mono HBq.out.size)); clear hB)
              go_ret
              exact ⟨rfl, B7.out.trans (B17.out.mono B7.out.size)⟩
            · have e1 : ((q : Int) == (L : Int) + 1) = false := by simp; omega
              have e1' : (q == L + 1) = false := by simp; omega
              obtain ⟨hk2, hq2⟩ := hm2.resolve_left he
              have f1 : ((j.kind : Int) == 2) = true := by rw [hk2]; rfl
              have f1' : (j.kind == 2) = true := by rw [hk2]; rfl
              have hmn : min 2 ((L : Int) + 1) = 2 := by omega
              have f2 : decide ((2 : Int) ≤ (q : Int)) = true := by simp; omega
              have f2' : decide (2 ≤ q) = true := by simp; omega
              clear he hm2 hk2
              go_wp2_with (go_at_call 12; (with_reducible refine (HA.out _).mono ?_); rintro e w17 ⟨rfl, hB⟩; have B17 := Lib.hid (HBq.out.trans (hB.mono HBq.out.size)); clear hB)
              go_ret
              exact ⟨rfl, B7.out.trans (B17.out.mono B7.out.size)⟩
end Go.Proofs.YtcklfffeimnfeaaGreat
