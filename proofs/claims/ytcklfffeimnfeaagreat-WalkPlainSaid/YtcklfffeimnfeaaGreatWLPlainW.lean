/- WalkPlain: the walk. -/
import Derived.Test.YtcklfffeimnfeaaGreatWLPlainT
import Derived.BigQuiet
namespace Go.Proofs.YtcklfffeimnfeaaGreat
set_option linter.unusedSimpArgs false
set_option linter.unusedVariables false
set_option maxRecDepth 100000
open Go.RowKit

section
variable {W : World} {b : Nat} {j : JobD} {so : Option Addr} {sc : Nat} {t : TypeId}
theorem row7 (h : W.heap[b]? = some (.cells (jobCs j so sc) t (0, 0))) :
    ((((W.setCell ⟨b, 0, none⟩ (.int .u8 2)).setCell ⟨b, 7, none⟩ (.int .u32 1)).setCell ⟨b, 8, none⟩ (.int .u32 1)).setCell ⟨b, 5, none⟩ (.int .u32 0)).heap[b]? = some (.cells (jobCs (asJ j 2 0) so sc) t (0, 0)) :=
  rest_set (rest_set (rest_set (rest_set h 0 _) 7 _) 8 _) 5 _
theorem row9 (h : W.heap[b]? = some (.cells (jobCs (asJ j 2 0) so sc) t (0, 0))) : (W.setCell ⟨b, 0, none⟩ (.int .u8 1)).heap[b]? = some (.cells (jobCs (asJ j 1 0) so sc) t (0, 0)) := rest_set h 0 _
theorem row11 (h : W.heap[b]? = some (.cells (jobCs (asJ j 1 0) so sc) t (0, 0))) : (W.setCell ⟨b, 0, none⟩ (.int .u8 0)).heap[b]? = some (.cells (jobCs (asJ j 0 0) so sc) t (0, 0)) := rest_set h 0 _
theorem row13 (h : W.heap[b]? = some (.cells (jobCs (asJ j 0 0) so sc) t (0, 0))) : ((W.setCell ⟨b, 0, none⟩ (.int .u8 1)).setCell ⟨b, 5, none⟩ (.int .u32 (j.od : Nat))).heap[b]? = some (.cells (jobCs (asJ j 1 j.od) so sc) t (0, 0)) := rest_set (rest_set h 0 _) 5 _
theorem row_cells (h : W.heap[b]? = some (.cells (jobCs j so sc) t (0, 0))) : W.cell? ⟨b, 0, none⟩ = some (.int .u8 (j.kind : Nat)) ∧ W.cell? ⟨b, 5, none⟩ = some (.int .u32 (j.stop : Nat)) ∧ W.cell? ⟨b, 7, none⟩ = some (.int .u32 (j.p : Nat)) ∧ W.cell? ⟨b, 8, none⟩ = some (.int .u32 (j.q : Nat)) ∧ W.cell? ⟨b, 6, none⟩ = some (.int .u32 (j.od : Nat)) ∧ W.cell? ⟨b, 2, none⟩ = some (.int .u32 (j.length : Nat)) ∧ ∀ i, W.frozen? ⟨b, i, none⟩ = false := by
  have hc := fun i => cell_of_row W b i (jobCs j so sc) t (0, 0) h
  exact ⟨hc 0, hc 5, hc 7, hc 8, hc 6, hc 2, fun i => frozen_of_row W b i _ t h⟩
end
theorem only_b (w : World) (b i : Nat) (v : Value) : Only (fun k => k = b) w (w.setCell ⟨b, i, none⟩ v) := (Only.refl (fun k => k = b) w).setCell (p := ⟨b, i, none⟩) (fun _ => rfl) v
theorem only_b2 (w : World) (b i j : Nat) (v u : Value) : Only (fun k => k = b) w ((w.setCell ⟨b, i, none⟩ v).setCell ⟨b, j, none⟩ u) := (only_b w b i v).trans (only_b _ b j u) (fun _ _ e => e)
theorem only_b4 (w : World) (b i j k l : Nat) (v u x y : Value) : Only (fun k => k = b) w ((((w.setCell ⟨b, i, none⟩ v).setCell ⟨b, j, none⟩ u).setCell ⟨b, k, none⟩ x).setCell ⟨b, l, none⟩ y) := (only_b2 w b i j v u).trans (only_b2 _ b k l x y) (fun _ _ e => e)
theorem only_below {w0 w w' : World} {b : Nat} (h0 : b ≤ w0.heap.size) (hB : Below b w0 w) (hO : Only (fun k => k = b) w w') : Below b w0 w' := hB.trans (hO.below (Nat.le_trans h0 hB.size) (fun k hk e => by omega))
set_option maxRecDepth 100000 in
set_option maxHeartbeats 6400000 in
theorem plain_walk (l : List EdgeD) (eo : Option Addr) (ec : Nat) (fp : Nat → Prop) (j : JobD) (hj : JobOk j) (so : Option Addr) (sc id : Nat) (hid : id < 4294967296)
    (w : World) (hsrc : Rd w so j.src.length (u32s j.src)) (hrd : RdS edgeRep fp w eo l) :
    Calls Tryz.prog 6 #[.slice eo l.length ec, .agg (jobCs j so sc), .int .u32 (id : Nat)] w (RetB (.bool true) w) := by
  have HA := Lib.hid awake22_any
  obtain ⟨w1, hw1⟩ : ∃ w1, w.alloc (.cells (jobCs j so sc) 29) = w1 := ⟨_, rfl⟩
  have B1 := Lib.hid (show Below w.heap.size w w1 by rw [← hw1]; exact ext_alloc w _)
  have S1 := Lib.hid (show w1.heap[w.heap.size]? = some (.cells (jobCs j so sc) 29 (0, 0)) by rw [← hw1]; exact heap_alloc_new _ _)
  have HGj := Lib.hid (fun W => great22_any j hj so sc W)
  have HMj := Lib.hid (fun (hs : j.src.length ≤ 1000000) W (h : Below w.heap.size w W) => rmay_any j hj so sc W hs (hsrc.ext h))
  have HNj := Lib.hid (fun (hs : j.src.length ≤ 1000000) W (h : Below w.heap.size w W) => rnew_any j hj so sc id hid W hs (hsrc.ext h))
  unfold newV at HNj
  have HIj := Lib.hid (jb_info2 j so sc)
  have Hw1 := Lib.hid hw1
  have Hsrc := Lib.hid hsrc
  clear hw1 hsrc
  obtain ⟨jc, hjc⟩ : ∃ jc, jobCs j so sc = jc := ⟨_, rfl⟩
  have Hjc := Lib.hid hjc
  rw [hjc] at Hw1 S1 HGj HMj HNj HIj ⊢
  clear hjc
  by_cases c1 : 60 < l.length
  · have d1 : decide ((60 : Int) < (l.length : Int)) = true := by simp; omega
    have d1' : decide (60 < l.length) = true := by simp; omega
    go_enter Tryz.func6, Tryz.ntmps6
    go_upto_region 1 with fail
    rw [Hw1.out]
    go_wp2_with (go_at_call 12; (with_reducible refine (HA.out _).mono ?_); rintro e w9 ⟨rfl, hB⟩; have B9 := Lib.hid (B1.out.trans (hB.mono B1.out.size)); clear hB)
    go_ret
    exact ⟨rfl, B9.out⟩
  have d1 : decide ((60 : Int) < (l.length : Int)) = false := by simp; omega
  have d1' : decide (60 < l.length) = false := by simp; omega
  cases hgj : greatW j with
  | true =>
    rw [hgj] at HGj
    clear HMj HNj
    go_enter Tryz.func6, Tryz.ntmps6
    go_upto_region 1 with fail
    rw [Hw1.out]
    go_wp2_with (first
    | (refine wpList_load_rowg rfl _ _ rfl w.heap.size rfl 29 jc (0, 0) _ S1.out Tryz.underlying29 rfl HIj.out ?_)
    | (go_at_call 11; (with_reducible refine (HGj.out _).mono ?_); rintro e w2 ⟨rfl, hB⟩; have B2 := Lib.hid (B1.out.trans (hB.mono B1.out.size)); clear hB)
    | (go_at_call 12; (with_reducible refine (HA.out _).mono ?_); rintro e w9 ⟨rfl, hB⟩; have B9 := Lib.hid (B2.out.trans (hB.mono B2.out.size)); clear hB))
    go_ret
    exact ⟨rfl, B9.out⟩
  | false =>
  rw [hgj] at HGj
  have hg1 := greatW_no hgj
  have hsl : j.src.length ≤ 1000000 := by omega
  have HMj := Lib.hid (HMj.out hsl)
  have HNj := Lib.hid (HNj.out hsl)
  cases hmj : mayJ j with
  | false =>
    rw [hmj] at HMj
    clear HNj
    go_enter Tryz.func6, Tryz.ntmps6
    go_upto_region 1 with fail
    rw [Hw1.out]
    go_wp2_with (first
    | (refine wpList_load_rowg rfl _ _ rfl w.heap.size rfl 29 jc (0, 0) _ S1.out Tryz.underlying29 rfl HIj.out ?_)
    | (refine wpList_load_rowg rfl _ _ rfl w.heap.size rfl 29 jc (0, 0) _ S2.out Tryz.underlying29 rfl HIj.out ?_)
    | (go_at_call 11; (with_reducible refine (HGj.out _).mono ?_); rintro e w2 ⟨rfl, hB⟩; have S2 := Lib.hid (heap_keep S1.out hB); have B2 := Lib.hid (B1.out.trans (hB.mono B1.out.size)); clear hB)
    | (go_at_call 20; (with_reducible refine (HMj.out _ B2.out).mono ?_); rintro e w3 ⟨rfl, hB⟩; have S3 := Lib.hid (heap_keep S2.out hB); have B3 := Lib.hid (B2.out.trans (hB.mono B2.out.size)); clear hB)
    | (go_at_call 12; (with_reducible refine (HA.out _).mono ?_); rintro e w9 ⟨rfl, hB⟩; have B9 := Lib.hid (B3.out.trans (hB.mono B3.out.size)); clear hB))
    go_ret
    exact ⟨rfl, B9.out⟩
  | true =>
  rw [hmj] at HMj
  have hokE := hrd.okEs
  have hlen := ofM_len l
  have HOf := Lib.hid (fun W (h : Below w.heap.size w W) => gof_any l eo ec fp W (by omega) hokE (hrd.ext h))
  have hR : (ofM l).2 = 0 → okG (ofM l).1 := of_fit hokE
  obtain ⟨r, hre⟩ : ∃ r, ofM l = r := ⟨_, rfl⟩
  rw [hre] at HOf hlen hR
  obtain ⟨R, er⟩ := r
  simp only at hR hlen
  obtain ⟨x, hx⟩ : ∃ x, newJ j id = x := ⟨_, rfl⟩
  have Hx := Lib.hid hx
  rw [hx] at HNj
  have Hz := Lib.hid (fun W : World => heap_alloc_new W (.cells #[.int .u32 0, .int .u32 0, .int .u32 0, .int .u32 0, .int .u32 0, .int .u32 0, .int .u32 0] 44))
  clear hx hre hokE hrd
  by_cases her : er ≠ 0
  · have de : ((er : Int) != 0) = true := by simp; omega
    have de' : (er != 0) = true := by simp; omega
    go_enter Tryz.func6, Tryz.ntmps6
    go_upto_region 1 with fail
    rw [Hw1.out]
    go_wp2_with (first
    | (refine wpList_load_rowg rfl _ _ rfl w.heap.size rfl 29 jc (0, 0) _ S1.out Tryz.underlying29 rfl HIj.out ?_)
    | (refine wpList_load_rowg rfl _ _ rfl w.heap.size rfl 29 jc (0, 0) _ S2.out Tryz.underlying29 rfl HIj.out ?_)
    | (go_at_call 11; (with_reducible refine (HGj.out _).mono ?_); rintro e w2 ⟨rfl, hB⟩; have S2 := Lib.hid (heap_keep S1.out hB); have B2 := Lib.hid (B1.out.trans (hB.mono B1.out.size)); clear hB)
    | (go_at_call 20; (with_reducible refine (HMj.out _ B2.out).mono ?_); rintro e w3 ⟨rfl, hB⟩; have S3 := Lib.hid (heap_keep S2.out hB); have B3 := Lib.hid (B2.out.trans (hB.mono B2.out.size)); clear hB)
    | (go_at_call 14; (with_reducible refine (HOf.out _ B3.out).mono ?_); rintro e w4 ⟨p, rfl, _, _, hG, hB⟩; have S4 := Lib.hid (heap_keep S3.out hB); have B4 := Lib.hid (B3.out.trans (hB.mono B3.out.size)); have G4 := Lib.hid (hG.mono (fp' := fun k => w3.heap.size ≤ k ∧ k < w4.heap.size) (fun b h hl => ⟨h, hl⟩)); clear hG hB)
    | (refine wpList_load_row rfl _ _ rfl w.heap.size rfl 29 jc (0, 0) _ S4.out Tryz.underlying29 rfl HIj.out ?_)
    | (go_at_call 18; (with_reducible refine (HNj.out _ B4.out).mono ?_); rintro e w5 ⟨rfl, hB⟩; have S5 := Lib.hid (heap_keep S4.out hB); have B5 := Lib.hid (B4.out.trans (hB.mono B4.out.size)); have G5 := Lib.hid (G4.out.ext hB); have Z5 := Lib.hid hB.size; clear hB)
    | (refine wpList_store_row rfl _ _ _ rfl rfl rfl (Hz.out w5) rfl (show _ = some 7 by kernel_rfl) (by simp [wkCs, Value.oneCell']) ?_; intro w6 hg6 ho6; have hz5 := (Array.getElem?_eq_some_iff.1 S5.out).1; have S6 := Lib.hid ((ho6.same w.heap.size (Nat.lt_of_lt_of_le hz5 (ext_alloc w5 _).size) (fun e => Nat.ne_of_lt hz5 e)).trans (heap_keep S5.out (ext_alloc w5 _))); have B6 := Lib.hid ((B5.out.alloc B5.out.size _).trans (ho6.below (Nat.le_trans B5.out.size (ext_alloc w5 _).size) (fun k hk e => Nat.lt_irrefl _ (Nat.lt_of_le_of_lt (Nat.le_trans B5.out.size (Nat.le_of_eq e.symm)) hk)))); have G6 := Lib.hid ((G5.out.ext (ext_alloc w5 _)).only ho6 (fun b hb hl e => Nat.lt_irrefl _ (Nat.lt_of_lt_of_le (by rw [← e]; exact hb.2) Z5.out))); have X6 := Lib.hid hg6; have Z6 := Lib.hid (Nat.le_trans (ext_alloc w5 _).size ho6.size); have Zx := Lib.hid (Nat.lt_of_lt_of_le (by simp : w5.heap.size < (w5.alloc (.cells #[.int .u32 0, .int .u32 0, .int .u32 0, .int .u32 0, .int .u32 0, .int .u32 0, .int .u32 0] 44)).heap.size) ho6.size); clear hg6 ho6)
    | (go_at_call 12; (with_reducible refine (HA.out _).mono ?_); rintro e w9 ⟨rfl, hB⟩; have B9 := Lib.hid (B6.out.trans (hB.mono B6.out.size)); clear hB))
    go_ret
    exact ⟨rfl, B9.out⟩
  obtain rfl : er = 0 := Decidable.of_not_not her
  have hRk := Lib.hid (hR rfl)
  clear hR
  cases hs : srcH j id with
  | false =>
    rw [hs] at HNj
    go_enter Tryz.func6, Tryz.ntmps6
    go_upto_region 1 with fail
    rw [Hw1.out]
    go_wp2_with (first
    | (refine wpList_load_rowg rfl _ _ rfl w.heap.size rfl 29 jc (0, 0) _ S1.out Tryz.underlying29 rfl HIj.out ?_)
    | (refine wpList_load_rowg rfl _ _ rfl w.heap.size rfl 29 jc (0, 0) _ S2.out Tryz.underlying29 rfl HIj.out ?_)
    | (go_at_call 11; (with_reducible refine (HGj.out _).mono ?_); rintro e w2 ⟨rfl, hB⟩; have S2 := Lib.hid (heap_keep S1.out hB); have B2 := Lib.hid (B1.out.trans (hB.mono B1.out.size)); clear hB)
    | (go_at_call 20; (with_reducible refine (HMj.out _ B2.out).mono ?_); rintro e w3 ⟨rfl, hB⟩; have S3 := Lib.hid (heap_keep S2.out hB); have B3 := Lib.hid (B2.out.trans (hB.mono B2.out.size)); clear hB)
    | (go_at_call 14; (with_reducible refine (HOf.out _ B3.out).mono ?_); rintro e w4 ⟨p, rfl, _, _, hG, hB⟩; have S4 := Lib.hid (heap_keep S3.out hB); have B4 := Lib.hid (B3.out.trans (hB.mono B3.out.size)); have G4 := Lib.hid (hG.mono (fp' := fun k => w3.heap.size ≤ k ∧ k < w4.heap.size) (fun b h hl => ⟨h, hl⟩)); clear hG hB)
    | (refine wpList_load_row rfl _ _ rfl w.heap.size rfl 29 jc (0, 0) _ S4.out Tryz.underlying29 rfl HIj.out ?_)
    | (go_at_call 18; (with_reducible refine (HNj.out _ B4.out).mono ?_); rintro e w5 ⟨rfl, hB⟩; have S5 := Lib.hid (heap_keep S4.out hB); have B5 := Lib.hid (B4.out.trans (hB.mono B4.out.size)); have G5 := Lib.hid (G4.out.ext hB); have Z5 := Lib.hid hB.size; clear hB)
    | (refine wpList_store_row rfl _ _ _ rfl rfl rfl (Hz.out w5) rfl (show _ = some 7 by kernel_rfl) (by simp [wkCs, Value.oneCell']) ?_; intro w6 hg6 ho6; have hz5 := (Array.getElem?_eq_some_iff.1 S5.out).1; have S6 := Lib.hid ((ho6.same w.heap.size (Nat.lt_of_lt_of_le hz5 (ext_alloc w5 _).size) (fun e => Nat.ne_of_lt hz5 e)).trans (heap_keep S5.out (ext_alloc w5 _))); have B6 := Lib.hid ((B5.out.alloc B5.out.size _).trans (ho6.below (Nat.le_trans B5.out.size (ext_alloc w5 _).size) (fun k hk e => Nat.lt_irrefl _ (Nat.lt_of_le_of_lt (Nat.le_trans B5.out.size (Nat.le_of_eq e.symm)) hk)))); have G6 := Lib.hid ((G5.out.ext (ext_alloc w5 _)).only ho6 (fun b hb hl e => Nat.lt_irrefl _ (Nat.lt_of_lt_of_le (by rw [← e]; exact hb.2) Z5.out))); have X6 := Lib.hid hg6; have Z6 := Lib.hid (Nat.le_trans (ext_alloc w5 _).size ho6.size); have Zx := Lib.hid (Nat.lt_of_lt_of_le (by simp : w5.heap.size < (w5.alloc (.cells #[.int .u32 0, .int .u32 0, .int .u32 0, .int .u32 0, .int .u32 0, .int .u32 0, .int .u32 0] 44)).heap.size) ho6.size); clear hg6 ho6)
    | (go_at_call 12; (with_reducible refine (HA.out _).mono ?_); rintro e w9 ⟨rfl, hB⟩; have B9 := Lib.hid (B6.out.trans (hB.mono B6.out.size)); clear hB))
    go_ret
    exact ⟨rfl, B9.out⟩
  | true =>
    rw [hs] at HNj
    go_enter Tryz.func6, Tryz.ntmps6
    go_upto_region 1 with fail
    rw [Hw1.out]
    go_upto_region 7 with (first
    | (refine wpList_load_rowg rfl _ _ rfl w.heap.size rfl 29 jc (0, 0) _ S1.out Tryz.underlying29 rfl HIj.out ?_)
    | (refine wpList_load_rowg rfl _ _ rfl w.heap.size rfl 29 jc (0, 0) _ S2.out Tryz.underlying29 rfl HIj.out ?_)
    | (go_at_call 11; (with_reducible refine (HGj.out _).mono ?_); rintro e w2 ⟨rfl, hB⟩; have S2 := Lib.hid (heap_keep S1.out hB); have B2 := Lib.hid (B1.out.trans (hB.mono B1.out.size)); clear hB)
    | (go_at_call 20; (with_reducible refine (HMj.out _ B2.out).mono ?_); rintro e w3 ⟨rfl, hB⟩; have S3 := Lib.hid (heap_keep S2.out hB); have B3 := Lib.hid (B2.out.trans (hB.mono B2.out.size)); clear hB)
    | (go_at_call 14; (with_reducible refine (HOf.out _ B3.out).mono ?_); rintro e w4 ⟨p, rfl, _, _, hG, hB⟩; have S4 := Lib.hid (heap_keep S3.out hB); have B4 := Lib.hid (B3.out.trans (hB.mono B3.out.size)); have G4 := Lib.hid (hG.mono (fp' := fun k => w3.heap.size ≤ k ∧ k < w4.heap.size) (fun b h hl => ⟨h, hl⟩)); clear hG hB)
    | (refine wpList_load_row rfl _ _ rfl w.heap.size rfl 29 jc (0, 0) _ S4.out Tryz.underlying29 rfl HIj.out ?_)
    | (go_at_call 18; (with_reducible refine (HNj.out _ B4.out).mono ?_); rintro e w5 ⟨rfl, hB⟩; have S5 := Lib.hid (heap_keep S4.out hB); have B5 := Lib.hid (B4.out.trans (hB.mono B4.out.size)); have G5 := Lib.hid (G4.out.ext hB); have Z5 := Lib.hid hB.size; clear hB)
    | (refine wpList_store_row rfl _ _ _ rfl rfl rfl (Hz.out w5) rfl (show _ = some 7 by kernel_rfl) (by simp [wkCs, Value.oneCell']) ?_; intro w6 hg6 ho6; have hz5 := (Array.getElem?_eq_some_iff.1 S5.out).1; have S6 := Lib.hid ((ho6.same w.heap.size (Nat.lt_of_lt_of_le hz5 (ext_alloc w5 _).size) (fun e => Nat.ne_of_lt hz5 e)).trans (heap_keep S5.out (ext_alloc w5 _))); have B6 := Lib.hid ((B5.out.alloc B5.out.size _).trans (ho6.below (Nat.le_trans B5.out.size (ext_alloc w5 _).size) (fun k hk e => Nat.lt_irrefl _ (Nat.lt_of_le_of_lt (Nat.le_trans B5.out.size (Nat.le_of_eq e.symm)) hk)))); have G6 := Lib.hid ((G5.out.ext (ext_alloc w5 _)).only ho6 (fun b hb hl e => Nat.lt_irrefl _ (Nat.lt_of_lt_of_le (by rw [← e]; exact hb.2) Z5.out))); have X6 := Lib.hid hg6; have Z6 := Lib.hid (Nat.le_trans (ext_alloc w5 _).size ho6.size); have Zx := Lib.hid (Nat.lt_of_lt_of_le (by simp : w5.heap.size < (w5.alloc (.cells #[.int .u32 0, .int .u32 0, .int .u32 0, .int .u32 0, .int .u32 0, .int .u32 0, .int .u32 0] 44)).heap.size) ho6.size); clear hg6 ho6))
    have Z3 := Lib.hid ((Array.getElem?_eq_some_iff.1 S3.out).1)
    have HPath := Lib.hid (fun kind stop (hk : kind ≤ 2) (hst : stop ≤ j.od) W (hO : Only (fun k => k = w.heap.size) w6 W) (hB : Below w.heap.size w W) => path_any p R (fun k => w3.heap.size ≤ k ∧ k < w4.heap.size) W hRk.out (by omega) (fun r hr => by have := hlen.1 r hr; omega)
      (G6.out.only hO (fun b hb _ e => by have := Z3.out; omega)) (fun b hb => by have := Z5.out; have := Z6.out; have := hO.size; omega) (asJ j kind stop) (asJ_ok hj hk hst) so sc id hid hsl (Hsrc.out.ext hB))
    have HArc := Lib.hid (fun W (hO : Only (fun k => k = w.heap.size) w6 W) => garcs_any p R x.at_ (fun k => w3.heap.size ≤ k ∧ k < w4.heap.size) W (by omega) (fun r hr => by have := hlen.1 r hr; omega) hRk.out.1.1 (G6.out.only hO (fun b hb _ e => by have := Z3.out; omega)))
    obtain ⟨gv, hgv⟩ : ∃ gv, gV p = gv := ⟨_, rfl⟩
    rw [hgv] at HPath HArc ⊢
    clear hgv
    have HP2 := Lib.hid (HPath.out 2 0 (by omega) (Nat.zero_le _))
    have HP1 := Lib.hid (HPath.out 1 0 (by omega) (Nat.zero_le _))
    have HP0 := Lib.hid (HPath.out 0 0 (by omega) (Nat.zero_le _))
    have HPa := Lib.hid (HPath.out 1 j.od (by omega) (Nat.le_refl _))
    have HI2 := Lib.hid (jb_info2 (asJ j 2 0) so sc)
    have HI1 := Lib.hid (jb_info2 (asJ j 1 0) so sc)
    have HI0 := Lib.hid (jb_info2 (asJ j 0 0) so sc)
    have HIa := Lib.hid (jb_info2 (asJ j 1 j.od) so sc)
    obtain ⟨q2, hq2⟩ : ∃ q, jobCs (asJ j 2 0) so sc = q := ⟨_, rfl⟩
    obtain ⟨q1, hq1⟩ : ∃ q, jobCs (asJ j 1 0) so sc = q := ⟨_, rfl⟩
    obtain ⟨q0, hq0⟩ : ∃ q, jobCs (asJ j 0 0) so sc = q := ⟨_, rfl⟩
    obtain ⟨qa, hqa⟩ : ∃ q, jobCs (asJ j 1 j.od) so sc = q := ⟨_, rfl⟩
    rw [hq2] at HP2 HI2
    rw [hq1] at HP1 HI1
    rw [hq0] at HP0 HI0
    rw [hqa] at HPa HIa
    obtain ⟨F2, hF2⟩ : ∃ F, pathW R (asJ j 2 0) id = F := ⟨_, rfl⟩
    obtain ⟨F1, hF1⟩ : ∃ F, pathW R (asJ j 1 0) id = F := ⟨_, rfl⟩
    obtain ⟨F0, hF0⟩ : ∃ F, pathW R (asJ j 0 0) id = F := ⟨_, rfl⟩
    obtain ⟨Fa, hFa⟩ : ∃ F, pathW R (asJ j 1 j.od) id = F := ⟨_, rfl⟩
    rw [hF2] at HP2
    rw [hF1] at HP1
    rw [hF0] at HP0
    rw [hFa] at HPa
    have HF2 := Lib.hid hF2
    have HF1 := Lib.hid hF1
    have HF0 := Lib.hid hF0
    have HFa := Lib.hid hFa
    clear hF2 hF1 hF0 hFa
    have Hq2 := Lib.hid hq2
    have Hq1 := Lib.hid hq1
    have Hq0 := Lib.hid hq0
    have Hqa := Lib.hid hqa
    clear hq2 hq1 hq0 hqa HPath
    have hjc6 := S6.out
    rw [← Hjc.out] at hjc6
    obtain ⟨k0, k5, k7, k8, -, -, kf⟩ := row_cells hjc6
    have f0 := kf 0
    have f5 := kf 5
    have f7 := kf 7
    have f8 := kf 8
    have Hjc6 := Lib.hid hjc6
    have Hlen := Lib.hid hlen
    have Hg1 := Lib.hid hg1
    have Hmj := Lib.hid hmj
    have Hs := Lib.hid hs
    have Hid' := Lib.hid hid
    have hz6 : w.heap.size < w6.heap.size := (Array.getElem?_eq_some_iff.1 S6.out).1
    clear kf hjc6 hlen hg1 hmj hs hid hsl c1 d1 d1' hgj hj hz5 hz6
    obtain ⟨b, hb⟩ : ∃ b, w.heap.size = b := ⟨_, rfl⟩
    rw [hb] at k0 k5 k7 k8 f0 f5 f7 f8 HP2 HP1 HP0 HPa HArc B6 Hjc6 Z3 ⊢
    have Hb := Lib.hid hb
    have hb0 : b ≤ w.heap.size := Nat.le_of_eq hb.symm
    clear hb
    go_upto_region 8 with fail
    obtain ⟨w7, hw7⟩ : ∃ w7, ((((w6.setCell ⟨b, 0, none⟩ (.int .u8 2)).setCell ⟨b, 7, none⟩ (.int .u32 1)).setCell ⟨b, 8, none⟩ (.int .u32 1)).setCell ⟨b, 5, none⟩ (.int .u32 0)) = w7 := ⟨_, rfl⟩
    rw [hw7]
    have S7 := Lib.hid (show w7.heap[b]? = some (.cells q2 29 (0, 0)) by rw [← hw7, ← Hq2.out]; exact row7 Hjc6.out)
    have O7 := Lib.hid (show Only (fun k => k = b) w6 w7 by rw [← hw7]; exact only_b4 w6 b 0 7 8 5 _ _ _ _)
    have B7 := Lib.hid (only_below hb0 B6.out O7.out)
    clear hw7 k0 k5 k7 k8 f0 f5 f7 f8
    go_upto_region 9 with (first
      | (refine wpList_load_row rfl _ _ rfl b rfl 29 q2 (0, 0) _ S7.out Tryz.underlying29 rfl HI2.out ?_)
      | (go_at_call 16; (with_reducible refine (HP2.out w7 O7.out B7.out).mono ?_); rintro e w8 ⟨a8, c8, g8, rfl, ho, hg, hB⟩; have P8 := Lib.hid ho; have Hg8 := Lib.hid hg; have D8 := Lib.hid hB; have S8 := Lib.hid (heap_keep S7.out hB); have O8 := Lib.hid (O7.out.ext hB); have B8 := Lib.hid (B7.out.trans (hB.mono (Nat.le_trans hb0 B7.out.size))); clear ho hg hB))
    obtain ⟨k0, -, -, -, -, -, kf⟩ := row_cells (j := asJ j 2 0) (so := so) (sc := sc) (by rw [Hq2.out]; exact S8.out)
    have f0 := kf 0
    clear kf
    go_upto_region 10 with fail
    obtain ⟨w9, hw9⟩ : ∃ w9, w8.setCell ⟨b, 0, none⟩ (.int .u8 1) = w9 := ⟨_, rfl⟩
    rw [hw9]
    have S9 := Lib.hid (show w9.heap[b]? = some (.cells q1 29 (0, 0)) by rw [← hw9, ← Hq1.out]; exact row9 (by rw [Hq2.out]; exact S8.out))
    have E9 := Lib.hid (show Only (fun k => k = b) w8 w9 by rw [← hw9]; exact only_b w8 b 0 _)
    have O9 := Lib.hid (O8.out.trans E9.out (fun _ _ e => e))
    have B9 := Lib.hid (only_below hb0 B8.out E9.out)
    clear hw9 k0 f0
    go_upto_region 11 with (first
      | (refine wpList_load_row rfl _ _ rfl b rfl 29 q1 (0, 0) _ S9.out Tryz.underlying29 rfl HI1.out ?_)
      | (go_at_call 16; (with_reducible refine (HP1.out w9 O9.out B9.out).mono ?_); rintro e w10 ⟨a10, c10, g10, rfl, ho, hg, hB⟩; have P10 := Lib.hid ho; have Hg10 := Lib.hid hg; have D10 := Lib.hid hB; have S10 := Lib.hid (heap_keep S9.out hB); have O10 := Lib.hid (O9.out.ext hB); have B10 := Lib.hid (B9.out.trans (hB.mono (Nat.le_trans hb0 B9.out.size))); clear ho hg hB))
    obtain ⟨k0, -, -, -, -, -, kf⟩ := row_cells (j := asJ j 1 0) (so := so) (sc := sc) (by rw [Hq1.out]; exact S10.out)
    have f0 := kf 0
    clear kf
    go_upto_region 12 with fail
    obtain ⟨w11, hw11⟩ : ∃ w11, w10.setCell ⟨b, 0, none⟩ (.int .u8 0) = w11 := ⟨_, rfl⟩
    rw [hw11]
    have S11 := Lib.hid (show w11.heap[b]? = some (.cells q0 29 (0, 0)) by rw [← hw11, ← Hq0.out]; exact row11 (by rw [Hq1.out]; exact S10.out))
    have E11 := Lib.hid (show Only (fun k => k = b) w10 w11 by rw [← hw11]; exact only_b w10 b 0 _)
    have O11 := Lib.hid (O10.out.trans E11.out (fun _ _ e => e))
    have B11 := Lib.hid (only_below hb0 B10.out E11.out)
    clear hw11 k0 f0
    go_upto_region 13 with (first
      | (refine wpList_load_row rfl _ _ rfl b rfl 29 q0 (0, 0) _ S11.out Tryz.underlying29 rfl HI0.out ?_)
      | (go_at_call 16; (with_reducible refine (HP0.out w11 O11.out B11.out).mono ?_); rintro e w12 ⟨a12, c12, g12, rfl, ho, hg, hB⟩; have P12 := Lib.hid ho; have Hg12 := Lib.hid hg; have D12 := Lib.hid hB; have S12 := Lib.hid (heap_keep S11.out hB); have O12 := Lib.hid (O11.out.ext hB); have B12 := Lib.hid (B11.out.trans (hB.mono (Nat.le_trans hb0 B11.out.size))); clear ho hg hB))
    obtain ⟨k0, k5, -, -, k6, -, kf⟩ := row_cells (j := asJ j 0 0) (so := so) (sc := sc) (by rw [Hq0.out]; exact S12.out)
    have f0 := kf 0
    have f5 := kf 5
    have k6' : w12.cell? ⟨b, 6, none⟩ = some (.int .u32 (j.od : Nat)) := k6
    clear kf k6
    go_upto_region 14 with fail
    obtain ⟨w13, hw13⟩ : ∃ w13, (w12.setCell ⟨b, 0, none⟩ (.int .u8 1)).setCell ⟨b, 5, none⟩ (.int .u32 (j.od : Nat)) = w13 := ⟨_, rfl⟩
    rw [hw13]
    have S13 := Lib.hid (show w13.heap[b]? = some (.cells qa 29 (0, 0)) by rw [← hw13, ← Hqa.out]; exact row13 (by rw [Hq0.out]; exact S12.out))
    have E13 := Lib.hid (show Only (fun k => k = b) w12 w13 by rw [← hw13]; exact only_b2 w12 b 0 5 _ _)
    have O13 := Lib.hid (O12.out.trans E13.out (fun _ _ e => e))
    have B13 := Lib.hid (only_below hb0 B12.out E13.out)
    clear hw13 k0 k5 f0 f5 k6'
    go_upto_region 15 with (first
      | (refine wpList_load_row rfl _ _ rfl b rfl 29 qa (0, 0) _ S13.out Tryz.underlying29 rfl HIa.out ?_)
      | (go_at_call 16; (with_reducible refine (HPa.out w13 O13.out B13.out).mono ?_); rintro e w14 ⟨a14, c14, g14, rfl, ho, hg, hB⟩; have P14 := Lib.hid ho; have Hg14 := Lib.hid hg; have D14 := Lib.hid hB; have S14 := Lib.hid (heap_keep S13.out hB); have O14 := Lib.hid (O13.out.ext hB); have B14 := Lib.hid (B13.out.trans (hB.mono (Nat.le_trans hb0 B13.out.size))); clear ho hg hB))
    have hhs := Hs.out
    have hhm := Hmj.out
    obtain ⟨m, hFm, hmm⟩ := always_path (R := R) hhm hhs
    rw [HFa.out, Hx.out] at hFm
    rw [Hx.out] at hmm
    have e20 : F0 = F2 := by rw [← HF2.out, ← HF0.out]; exact plain_same hhm (by omega) (by omega) id
    have e10 : F0 = F1 := by rw [← HF1.out, ← HF0.out]; exact plain_same hhm (by omega) (by omega) id
    have hF0l : F0.length ≤ 21 := by
      rw [← HF0.out]
      unfold pathW
      split
      · have h1 := (walk_pre R (asJ j 0 0) id (asJ j 0 0).length [(newJ (asJ j 0 0) id).at_]).2
        have h2 : (asJ j 0 0).length = j.length := rfl
        have h3 := Hg1.out.1
        rw [List.length_singleton] at h1
        omega
      · simp
    have hml : m ≤ 21 := by have := Hg1.out.1; omega
    have hjl : j.length ≤ 20 := Hg1.out.1
    subst hFm e20 e10
    -- what is still there
    have A8 : Only (fun k => k = b) w8 w14 := ((((((E9.out.ext D10.out).trans E11.out (fun _ _ e => e)).ext D12.out).trans E13.out (fun _ _ e => e)).ext D14.out))
    have A10 : Only (fun k => k = b) w10 w14 := ((((E11.out.ext D12.out).trans E13.out (fun _ _ e => e)).ext D14.out))
    have A12 : Only (fun k => k = b) w12 w14 := (E13.out.ext D14.out)
    have hbw6 : b < w6.heap.size := (Array.getElem?_eq_some_iff.1 Hjc6.out).1
    have z7 : w6.heap.size ≤ w7.heap.size := O7.out.size
    have z9 : w6.heap.size ≤ w9.heap.size := O9.out.size
    have z11 : w6.heap.size ≤ w11.heap.size := O11.out.size
    have R8 := Lib.hid (P8.out.only A8 (fun q hq e => by have := Hg8.out q hq; omega)).rd
    have R10 := Lib.hid (P10.out.only A10 (fun q hq e => by have := Hg10.out q hq; omega)).rd
    have R12 := Lib.hid (P12.out.only A12 (fun q hq e => by have := Hg12.out q hq; omega)).rd
    have R14 := Lib.hid P14.out.rd
    have X14 := Lib.hid ((O14.out.same w5.heap.size Zx.out (by have h1 := (Array.getElem?_eq_some_iff.1 S5.out).1; have h2 := Hb.out; omega)).trans X6.out)
    obtain ⟨at_, hat⟩ : ∃ a, x.at_ = a := ⟨_, rfl⟩
    have Hc14 := Lib.hid (fun W (hB : Below w14.heap.size w14 W) => (show W.cell? ⟨w5.heap.size, 2, none⟩ = some (.int .u32 (at_ : Nat)) by
      rw [← hat]
      exact cell_of_row W w5.heap.size 2 (wkCs x) _ (0, 0) (heap_keep X14.out hB)))
    have Hj14 := Lib.hid (fun W (hB : Below w14.heap.size w14 W) => (show W.cell? ⟨b, 2, none⟩ = some (.int .u32 (j.length : Nat)) from (row_cells (j := asJ j 1 j.od) (so := so) (sc := sc) (by rw [Hqa.out]; exact heap_keep S14.out hB)).2.2.2.2.2.1))
    have HArc14 := Lib.hid (fun W (hB : Below w14.heap.size w14 W) => HArc.out W (O14.out.ext hB))
    have hlr : (List.replicate m x.at_).length = m := by simp
    rw [hlr] at R14 ⊢
    rw [hat] at R14 HArc14 hmm
    obtain ⟨n0, hn0⟩ : ∃ n, F0.length = n := ⟨_, rfl⟩
    have HSa := Lib.hid (fun W (hB : Below w14.heap.size w14 W) => vsame15_any F0 a8 a12 c8 c12 W (by omega) (R8.out.ext hB) (R12.out.ext hB))
    have HSb := Lib.hid (fun W (hB : Below w14.heap.size w14 W) => vsame15_any F0 a10 a12 c10 c12 W (by omega) (R10.out.ext hB) (R12.out.ext hB))
    rw [hn0] at HSa HSb ⊢
    clear P8 P10 P12 P14 A8 A10 A12 R8 R10 R12 hF0l z7 z9 z11 hn0 hlr hhs hhm
    have HR14 := Lib.hid R14.out
    have Hmm := Lib.hid hmm
    have Hx14 := Lib.hid (fun (i : Nat) (hi : i < m) => (show ∃ b' off, a14 = some ⟨b', off, none⟩ ∧ b' < w14.heap.size ∧ w14.cell? ⟨b', off + i, none⟩ = some (.int .u32 (at_ : Nat)) by
      have hr : Rd w14 a14 (List.replicate m at_).length (u32s (List.replicate m at_)) := by
        rw [List.length_replicate]; exact HR14.out
      obtain ⟨b', off, h1, h2, h3⟩ := hr.u32 i (by simpa using hi)
      exact ⟨b', off, h1, h2, by rw [h3]; simp⟩))
    have HB14 := Lib.hid B14.out
    clear R14 hmm HF2 HF1 HF0 HFa HP2 HP1 HP0 HPa HI2 HI1 HI0 HIa S8 S10 S12 S14 S7 S9 S11 S13 X14 X6 O7 O8 O9 O10 O11 O12 O13 O14 E9 E11 E13 D8 D10 D12 D14 B6 B7 B8 B9 B10 B11 B12 B13 B14 Hg8 Hg10 Hg12 Hg14 Z3 Z5 Z6 Zx hbw6 hb0
    go_upto_region 16 with fail
    go_loopw [15] (fun v15 wr => ∃ i : Nat, v15 = .int .i64 (i : Nat) ∧ i ≤ m ∧ Below w14.heap.size w14 wr) (fun v15 _ => m - (intOf v15).toNat)
    case atStart => exact ⟨0, rfl, Nat.zero_le _, Below.refl _ _⟩
    case round =>
      obtain ⟨i, rfl, hi, hBr⟩ := hrel
      by_cases hlt : i < m
      · obtain ⟨b', off, rfl, hb', hc'⟩ := Hx14.out i hlt
        have hir : (i : Int) < (m : Int) := by omega
        have di : decide ((i : Int) < (m : Int)) = true := by simp; omega
        have hca := ((bcell hBr).1 b' (off + i) hb').trans hc'
        have hcb := Hc14.out _ hBr
        have hne : ((at_ : Int) != (at_ : Int)) = false := by simp
        have HBr := Lib.hid hBr
        clear hc' hBr
        go_wp2_with fail
        go_quiet (fail)
        go_wp2_with fail
        go_roundw
        case rel => exact ⟨i + 1, by go_num, by omega, HBr.out.trans ((ext_drewN _ _).mono HBr.out.size)⟩
        case measure => simp [intOf]; omega
      · obtain rfl : i = m := by omega
        have di : decide ((i : Int) < (i : Int)) = false := by simp
        have HBr := Lib.hid hBr
        have hcj := Hj14.out _ hBr
        have hcx := Hc14.out _ hBr
        clear hBr
        rename World => wr
        by_cases hm1 : i = j.length + 1
        · have e1 : ((i : Int) == (j.length : Int) + 1) = true := by simp; omega
          have e1' : (i == j.length + 1) = true := by simp; omega
          clear hm1 hlt
          go_wp2_with (first
            | (go_at_call 15; (with_reducible refine (HSa.out _ HBr.out).mono ?_); rintro e w15 ⟨rfl, q15, rfl⟩; have B15 := Lib.hid (HBr.out.trans ((ext_drewN wr q15).mono HBr.out.size)))
            | (go_at_call 15; (with_reducible refine (HSb.out _ B15.out).mono ?_); rintro e w16 ⟨rfl, q16, rfl⟩; have B16 := Lib.hid (B15.out.trans ((ext_drewN _ q16).mono B15.out.size)))
            | (go_at_call 12; (with_reducible refine (HA.out _).mono ?_); rintro e w17 ⟨rfl, hB⟩; have B17 := Lib.hid (show Below w14.heap.size w14 w17 from HBr.out.trans (((ext_drewN wr (q15 + q16)).trans (hB.mono (ext_drewN wr (q15 + q16)).size)).mono HBr.out.size)); clear hB))
          go_ret
          exact ⟨rfl, by rw [Hb.out]; exact HB14.out.trans (B17.out.mono (by have := HB14.out.size; have := Hb.out; omega))⟩
        · obtain ⟨hm2, ha⟩ := Hmm.out.resolve_left hm1
          have e1 : ((i : Int) == (j.length : Int) + 1) = false := by simp; omega
          have e1' : (i == j.length + 1) = false := by simp; omega
          have e2 : ((i : Int) == 1) = true := by simp; omega
          have e2' : (i == 1) = true := by simp; omega
          rw [ha] at HArc14
          clear hm1 hlt hm2 ha
          go_wp2_with (first
            | (go_at_call 19; (with_reducible refine (HArc14.out _ HBr.out).mono ?_); rintro e w18 ⟨aa, ac, ag, rfl, _, _, hB⟩; have B18 := Lib.hid (HBr.out.trans (hB.mono HBr.out.size)); clear hB)
            | (go_at_call 15; (with_reducible refine (HSa.out _ B18.out).mono ?_); rintro e w15 ⟨rfl, q15, rfl⟩; have B15 := Lib.hid (B18.out.trans ((ext_drewN _ q15).mono B18.out.size)))
            | (go_at_call 15; (with_reducible refine (HSb.out _ B15.out).mono ?_); rintro e w16 ⟨rfl, q16, rfl⟩; have B16 := Lib.hid (B15.out.trans ((ext_drewN _ q16).mono B15.out.size)))
            | (go_at_call 12; (with_reducible refine (HA.out _).mono ?_); rintro e w17 ⟨rfl, hB⟩; have B17 := Lib.hid (show Below w14.heap.size w14 w17 from B18.out.trans (((ext_drewN w18 (q15 + q16)).trans (hB.mono (ext_drewN w18 (q15 + q16)).size)).mono B18.out.size)); clear hB))
          go_ret
          exact ⟨rfl, by rw [Hb.out]; exact HB14.out.trans (B17.out.mono (by have := HB14.out.size; have := Hb.out; omega))⟩
end Go.Proofs.YtcklfffeimnfeaaGreat
