/- palmerref22.Path. -/
import Derived.Test.YtcklfffeimnfeaaGreatRefNext
import Derived.Test.YtcklfffeimnfeaaGreatBx21
import Derived.Test.YtcklfffeimnfeaaGreatBx22
set_option maxRecDepth 100000
set_option maxHeartbeats 12800000
set_option linter.unusedSimpArgs false
set_option linter.unusedVariables false
namespace Go.Proofs.YtcklfffeimnfeaaGreat
open Go.RowKit

theorem infoW (x : WkD) : (Tryz.prog.info? 44).map (·.size) = some (wkCs x).size := by kernel_rfl
def rpJ (R : List RowD) (j : JobD) (id : Nat) (w6 : World) (v9 v10 : Value) (wr : World) : Prop :=
  ∃ (n : Nat) (p : List Nat) (ao : Option Addr) (cap : Nat) (g : Option Nat), v10 = .int .u32 (n : Nat) ∧ v9 = .slice ao p.length cap ∧ Own wr ao cap g 24 1 p.length (u32s p) ∧ (∀ k, g = some k → w6.heap.size ≤ k) ∧ n ≤ j.length ∧ p.length = n + 1 ∧ walkW R j id (j.length - n) p = pathW R j id ∧ Below w6.heap.size w6 wr
theorem rpath22_any (R : List RowD) (ro : Option Addr) (rc : Nat) (rfp : Nat → Prop) (hR : okG R) (hl : R.length ≤ 1000) (ha : ∀ r ∈ R, r.2.length ≤ 1000) (j : JobD) (hj : JobOk j) (so : Option Addr) (sc id : Nat) (hid : id < 4294967296) (hsl : j.src.length ≤ 1000000) (hjl : j.length ≤ 100000)
    (w : World) (hsrc : Rd w so j.src.length (u32s j.src)) (hrd : RdS rowRep rfp w ro R) :
    Calls Tryz.prog 17 #[.slice ro R.length rc, .agg (jobCs j so sc), .int .u32 (id : Nat)] w (PathRet (pathW R j id) w) := by
  obtain ⟨w1, hw1⟩ : ∃ w1, w.alloc (.cells (jobCs j so sc) 29) = w1 := ⟨_, rfl⟩
  have B1 := Lib.hid (show Below w.heap.size w w1 by rw [← hw1]; exact ext_alloc w _)
  have S1 := Lib.hid (show w1.heap[w.heap.size]? = some (.cells (jobCs j so sc) 29 (0, 0)) by rw [← hw1]; exact heap_alloc_new _ _)
  have HIj := Lib.hid (rowN_j j so sc)
  have Hw1 := Lib.hid hw1
  obtain ⟨y, hy⟩ : ∃ y, newJ j id = y := ⟨_, rfl⟩
  obtain ⟨yc, hyc⟩ : ∃ yc, wkCs y = yc := ⟨_, rfl⟩
  have HYc := Lib.hid hyc.symm
  have HNw := Lib.hid (fun W (h : Below w.heap.size w W) => (show Calls Tryz.prog 18 #[.agg (jobCs j so sc), .int .u32 (id : Nat)] W (RetB (.tuple #[.agg yc, .bool (srcH j id)]) W) from by
    have h8 := rnew_any j hj so sc id hid W hsl (hsrc.ext h)
    unfold newV at h8
    rw [hy, hyc] at h8
    exact h8))
  have HNx := Lib.hid (fun (p : List Nat) (hp0 : 0 < p.length) (hpl : p.length - 1 < j.length) pa pc W (h : Below w.heap.size w W) (hp : Rd W pa p.length (u32s p)) => rnext22_any R ro rc rfp hR hl ha j hj so sc id hid p hp0 hpl pa pc W (hrd.ext h) hp)
  have HC := Lib.hid (fun (W : World) (h : W.heap[w.heap.size]? = some (.cells (jobCs j so sc) 29 (0, 0))) => (show W.cell? ⟨w.heap.size, 2, none⟩ = some (.int .u32 (j.length : Nat)) from cell_of_row W _ 2 _ _ (0, 0) h))
  have hpw1 : srcH j id = true → pathW R j id = walkW R j id j.length [y.at_] := fun h => by unfold pathW; rw [h, hy]; rfl
  have hpw0 : srcH j id = false → pathW R j id = [] := fun h => by unfold pathW; rw [h]; rfl
  clear hw1 hsrc hyc hy hrd
  obtain ⟨jc, hjc⟩ : ∃ jc, jobCs j so sc = jc := ⟨_, rfl⟩
  rw [hjc] at Hw1 S1 HIj HNw HNx HC ⊢
  clear hjc
  go_enter Tryz.func17, Tryz.ntmps17
  go_upto_region 1 with fail
  rw [Hw1.out]
  go_upto_region 2 with (first
    | (refine wpList_load_row rfl _ _ rfl w.heap.size rfl 29 jc (0, 0) _ S1.out Tryz.underlying29 rfl HIj.out ?_)
    | (go_at_call 18; (with_reducible refine (HNw.out _ B1.out).mono ?_); rintro e w4 ⟨rfl, hB⟩; have S4 := Lib.hid (keepN S1.out hB); have B4 := Lib.hid (B1.out.trans (hB.mono B1.out.size)); have Z4 := Lib.hid (heap_alloc_new w4 (.cells #[.int .u32 0, .int .u32 0, .int .u32 0, .int .u32 0, .int .u32 0, .int .u32 0, .int .u32 0] 44)); clear hB)
    | (refine wpList_store_row rfl _ _ _ rfl rfl rfl Z4.out (by rw [HYc.out]; rfl) (by rw [HYc.out]; exact infoW _) (by rw [HYc.out]; simp [wkCs, Value.oneCell']) ?_; intro w5 hg5 ho5; have HG5 := Lib.hid hg5; have HO5 := Lib.hid ho5; clear hg5 ho5))
  have HB45 := Lib.hid (show Below w4.heap.size w4 w5 from (ext_alloc w4 _).trans (HO5.out.below (by simp) (fun k hk e => by omega)))
  have S5 := Lib.hid (keepN S4.out HB45.out)
  have B5 := Lib.hid (B4.out.trans (HB45.out.mono B4.out.size))
  cases his : srcH j id with
  | false =>
    have Hp0 := Lib.hid (hpw0 his)
    clear hpw0 hpw1 his HNx HC
    go_wp2_with fail
    go_ret
    rw [Hp0.out]
    exact ⟨_, 0, some w5.heap.size, rfl, Own.emptyAt w5 24 1 w5.heap.size rfl, (fun k h => by cases h; exact B5.out.size), B5.out.alloc B5.out.size _⟩
  | true =>
    have hpw := hpw1 his
    have cy2 : w5.cell? ⟨w4.heap.size, 2, none⟩ = some (.int .u32 (y.at_ : Nat)) := by
      have h := HG5.out
      rw [HYc.out] at h
      exact cell_of_row w5 _ 2 _ _ (0, 0) h
    obtain ⟨bw, hbw⟩ : ∃ bw, w4.heap.size = bw := ⟨_, rfl⟩
    rw [hbw] at cy2 ⊢
    have Hpw := Lib.hid hpw
    clear hpw hpw0 hpw1 his HG5 HO5 HB45 S4 B4 Z4 S1 B1 hbw
    go_wp2_with fail
    go_loopw [9, 10] (fun v9 v10 wr => rpJ R j id w5 v9 v10 wr) (fun _ v10 _ => j.length - (intOf v10).toNat)
    case atStart =>
      refine ⟨0, [y.at_], some ⟨w5.heap.size, 0, none⟩, 1, some w5.heap.size, rfl, rfl, ?_, (fun k h => by cases h; exact Nat.le_refl _), Nat.zero_le _, rfl, by rw [Nat.sub_zero, Hpw.out], ext_alloc w5 _⟩
      exact ⟨rfl, .inr ⟨w5.heap.size, _, rfl, rfl, heap_alloc_new w5 _, Nat.le_refl _, by decide, rfl, rfl⟩⟩
    case round =>
      obtain ⟨n, p, ao, cap, g, rfl, rfl, hown, hg, hn, hpl, hwk, hB⟩ := hrel
      rename World => wo
      have So := keepN S5.out hB
      have c2 := HC.out wo So
      have SO := Lib.hid So
      have Bo := Lib.hid (B5.out.trans (hB.mono B5.out.size))
      have Eo := Lib.hid hB
      have Hown := Lib.hid hown
      have Hg := Lib.hid hg
      have Hwk := Lib.hid hwk
      have Hpl := Lib.hid hpl
      have hpb : p.length ≤ 200000 := by omega
      clear So hB hown hg hwk cy2 hpl
      by_cases hlt : n < j.length
      · have t1 : decide ((n : Int) < (j.length : Int)) = true := decide_eq_true (by omega)
        have t1' : decide (n < j.length) = true := decide_eq_true hlt
        have HN := Lib.hid (HNx.out p (by have := Hpl.out; omega) (by have := Hpl.out; omega) ao cap wo Bo.out Hown.out.rd)
        have hwk2 := Hwk.out
        rw [show j.length - n = j.length - (n + 1) + 1 by omega, walkW] at hwk2
        cases hnx : nextW R j id p with
        | none =>
          rw [hnx] at hwk2 HN
          have HN := Lib.hid (show Calls Tryz.prog 35 #[.slice ro R.length rc, .agg jc, .int .u32 (id : Nat), .slice ao p.length cap] wo (RetB (.tuple #[.int .u32 0, .bool false]) wo) from HN.out)
          have Hp := Lib.hid (show p = pathW R j id from hwk2)
          clear hwk2 hnx
          go_wp2_with (first
            | (refine wpList_load_row rfl _ _ rfl w.heap.size rfl 29 jc (0, 0) _ SO.out Tryz.underlying29 rfl HIj.out ?_)
            | (go_at_call 35; (with_reducible refine HN.out.mono ?_); rintro e w6 ⟨rfl, hB⟩; have E6 := Lib.hid (Eo.out.trans (hB.mono Eo.out.size)); have O6 := Lib.hid (Hown.out.ext hB); clear hB))
          go_ret
          rw [← Hp.out]
          exact ⟨ao, cap, g, rfl, O6.out, (fun k h => Nat.le_trans B5.out.size (Hg.out k h)), B5.out.trans (E6.out.mono B5.out.size)⟩
        | some v =>
          rw [hnx] at hwk2 HN
          have HN := Lib.hid (show Calls Tryz.prog 35 #[.slice ro R.length rc, .agg jc, .int .u32 (id : Nat), .slice ao p.length cap] wo (RetB (.tuple #[.int .u32 (v : Nat), .bool true]) wo) from HN.out)
          have Hw2 := Lib.hid (show walkW R j id (j.length - (n + 1)) (p ++ [v]) = pathW R j id from hwk2)
          have hE := u32sElem
          clear hwk2 hnx
          go_upto_region 10 with (first
            | (refine wpList_load_row rfl _ _ rfl w.heap.size rfl 29 jc (0, 0) _ SO.out Tryz.underlying29 rfl HIj.out ?_)
            | (go_at_call 35; (with_reducible refine HN.out.mono ?_); rintro e w6 ⟨rfl, hB⟩; have E6 := Lib.hid (Eo.out.trans (hB.mono Eo.out.size)); have O6 := Lib.hid (Hown.out.ext hB); clear hB))
          have hs6 := E6.out.size
          go_wp2_with (at_builtin; refine wpList_app rfl (.tmp 41) (.tmp 43) 25 25 rfl hE (O6.out.alloc _) rfl rfl (srcOne Tryz.underlying25 _ _ _ _ rfl) (by simp [maxLen]; omega) (by omega) ?_; intro ao3 cap3 g3 w9 ho3 hg3 hon3; obtain ⟨hG, hBB⟩ := app_blocks Hg.out (E6.out.alloc E6.out.size _) hg3 hon3; have Ho3 := Lib.hid ho3; have HG3 := Lib.hid hG; have HBB := Lib.hid hBB; clear ho3 hg3 hon3 hG hBB)
          go_roundw
          case rel =>
            have hpl := Hpl.out
            have hlen : (p ++ [v]).length = p.length + 1 := by simp
            refine ⟨n + 1, p ++ [v], ao3, cap3, g3, by go_num, by rw [hlen], ?_, HG3.out, by omega, by rw [hlen]; omega, Hw2.out, HBB.out⟩
            rw [hlen, show u32s (p ++ [v]) = u32s p ++ [.int .u32 (v : Nat)] by simp [u32s]]
            exact Ho3.out
          case measure => simp [intOf]; omega
      · obtain rfl : n = j.length := by omega
        have t1 : decide ((j.length : Int) < (j.length : Int)) = false := by simp
        have t1' : decide (j.length < j.length) = false := by simp
        have hwk2 := Hwk.out
        rw [Nat.sub_self, walkW] at hwk2
        have Hp := Lib.hid hwk2
        clear hwk2
        go_wp2_with fail
        go_ret
        rw [← Hp.out]
        exact ⟨ao, cap, g, rfl, Hown.out, (fun k h => Nat.le_trans B5.out.size (Hg.out k h)), B5.out.trans (Eo.out.mono B5.out.size)⟩
end Go.Proofs.YtcklfffeimnfeaaGreat
