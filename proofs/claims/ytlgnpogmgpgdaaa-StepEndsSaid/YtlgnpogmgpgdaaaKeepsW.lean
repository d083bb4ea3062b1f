/- StepKeeps: the walk. -/
import Derived.Test.YtlgnpogmgpgdaaaStepAwake
namespace Go.Proofs.Ytlgnpogmgpgdaaa
set_option linter.unusedSimpArgs false
set_option linter.unusedVariables false
set_option maxRecDepth 100000
open Go.RowKit

/-- the rows of a job and a walker -/
structure JxW (b : Nat) (j : JobD) (so : Option Addr) (sc : Nat) (x : WkD) (W : World) : Prop where
  job : W.heap[b]? = some (.cells (jobCs j so sc) 28 (0, 0))
  wk : W.heap[b + 1]? = some (.cells (wkCs x) 30 (0, 0))
theorem JxW.ext {b : Nat} {j : JobD} {so : Option Addr} {sc : Nat} {x : WkD} {W W' : World} (h : JxW b j so sc x W) (hB : Below W.heap.size W W') : JxW b j so sc x W' := by
  have k : ∀ i o, W.heap[i]? = some o → W'.heap[i]? = some o := fun i o e => (hB.block i (Array.getElem?_eq_some_iff.1 e).1).trans e
  exact ⟨k _ _ h.job, k _ _ h.wk⟩
theorem jb_info (j : JobD) (so : Option Addr) (sc : Nat) : (Try.prog.info? 28).map (·.size) = some (jobCs j so sc).size := by kernel_rfl
theorem move_wkOk {j : JobD} (hj : JobOk j) {x : WkD} (hx : WkOk x) {l : List ArcD} (hl : ∀ a ∈ l, a.1 < 4294967296) (t : List CellD) : WkOk (moveM j x l t).1 := by
  have z0 : (0 : Nat) < 4294967296 := by decide
  have z1 : (1 : Nat) < 4294967296 := by decide
  have hs : ∀ tv, tv < 4294967296 → WkOk (stepsM j x tv).1 := fun tv h => ⟨hx.id, Nat.mod_lt _ (by decide), h, (by simp only [stepsM]; split; exact hx.at_; exact z0), z0, z0, z0⟩
  have hlo : x.try_ < j.tries → WkOk (lostM j x).1 := fun h => by
    unfold lostM
    have := hj.tries
    split
    · exact hx
    · exact ⟨hx.id, hx.step, hx.at_, hx.prev, z0, (by simp only; omega), z0⟩
  have hsrc : ∀ i, j.src[i]! < 4294967296 := fun i => by
    by_cases h : i < j.src.length
    · rw [getElem!_pos j.src i h]; exact hj.src _ (List.getElem_mem h)
    · rw [getElem!_neg j.src i h]; decide
  have harc : ∀ i : Nat, l[i]!.1 < 4294967296 := fun i => by
    by_cases h : i < l.length
    · rw [getElem!_pos l i h]; exact hl _ (List.getElem_mem h)
    · rw [getElem!_neg l i h]; decide
  unfold moveM
  split
  · exact hx
  rename_i hm
  have hmw : mayW j x = true := by
    cases e : mayW j x with
    | true => rfl
    | false => rw [e] at hm; simp at hm
  have ht := (mayW_dest hmw).try_
  split
  · split
    · exact hs _ hx.next
    · exact hlo ht
  split
  · exact hx
  split
  · exact hs _ (hsrc _)
  split
  · exact hx
  unfold takeM
  split
  · split
    · split
      · exact hs _ (harc _)
      · exact hlo ht
    · exact ⟨hx.id, hx.step, hx.at_, hx.prev, harc _, hx.try_, z1⟩
  · exact hs _ (harc _)
theorem RdS.arcLt {fp : Nat → Prop} {w : World} {ao : Option Addr} {l : List ArcD} (h : RdS arcRep fp w ao l) : ∀ a ∈ l, a.1 < 4294967296 := fun a ha => by
  obtain ⟨i, hi, rfl⟩ := List.mem_iff_getElem.1 ha
  obtain ⟨_, _, _, _, _, _, hok⟩ := h.arc i hi
  exact hok.1
def wkL (x : WkD) : Array Value := #[.int .u32 (x.id : Nat), .int .u32 (x.step : Nat), .int .u32 (x.at_ : Nat), .int .u32 (x.prev : Nat), .int .u32 (x.next : Nat), .int .u32 (x.try_ : Nat), .int .u32 (x.state : Nat)]
set_option maxRecDepth 100000 in
set_option maxHeartbeats 6400000 in
theorem keeps_walk (j : JobD) (hj : JobOk j) (so : Option Addr) (sc : Nat) (x : WkD) (hx : WkOk x) (l : List ArcD) (t : List CellD) (ao bo : Option Addr) (ca cb : Nat) (fp fq : Nat → Prop) (w : World)
    (hsrc : Rd w so j.src.length (u32s j.src)) (hrd : RdS arcRep fp w ao l) (hrt : RdS cellRep fq w bo t) :
    Calls Try.prog 3 #[.agg (jobCs j so sc), .agg (wkCs x), .slice ao l.length ca, .slice bo t.length cb] w (RetB (.bool true) w) := by
  have HA := Lib.hid awake21_any
  obtain ⟨W2, hW2⟩ : ∃ W2, W2 = (w.alloc (.cells (jobCs j so sc) 28)).alloc (.cells (wkCs x) 30) := ⟨_, rfl⟩
  have hz2 : w.heap.size + 2 ≤ W2.heap.size := by rw [hW2]; simp
  have HB2 := Lib.hid (show Below w.heap.size w W2 by rw [hW2]; exact (ext_alloc w _).alloc (by simp) _)
  have HS2 := Lib.hid (show JxW w.heap.size j so sc x W2 by rw [hW2]; exact ⟨heap_alloc2_old _ _ _, heap_alloc2_new _ _ _⟩)
  have HG := Lib.hid (fun W => great_any j so sc l.length t.length ao bo ca cb W)
  cases hg : greatB j.src.length l.length t.length with
  | true =>
    rw [hg] at HG
    clear hg hsrc hrd hrt
    go_enter Try.func3, Try.ntmps3
    go_upto_region 1 with fail
    rw [← hW2]
    clear hW2
    go_wp2_with (first
      | (refine wpList_load_row rfl _ _ rfl w.heap.size rfl 28 (jobCs j so sc) (0, 0) _ HS2.out.job Try.underlying28 rfl (jb_info _ _ _) ?_)
      | (go_at_call 12; (with_reducible refine (HG.out _).mono ?_); rintro e w3 ⟨rfl, hB⟩; have B3 := Lib.hid (HB2.out.trans (hB.mono (by omega))); clear hB)
      | (go_at_call 13; (with_reducible refine (HA.out _).mono ?_); rintro e w4 ⟨rfl, hB⟩; have B4 := Lib.hid (B3.out.trans (hB.mono B3.out.size)); clear hB))
    go_ret
    exact ⟨rfl, B4.out⟩
  | false =>
  obtain ⟨g1, g2, g3⟩ := great_no hg
  rw [hg] at HG
  obtain ⟨r, hr⟩ : ∃ r, moveM j x l t = r := ⟨_, rfl⟩
  have hok := move_ok j x l t
  rw [hr] at hok
  have hyk := move_wkOk hj hx hrd.arcLt t
  rw [hr] at hyk
  have Hyk := Lib.hid hyk
  have HMv := Lib.hid (fun W (h : Below w.heap.size w W) => (show Calls Try.prog 14 #[.agg (jobCs j so sc), .agg (wkCs x), .slice ao l.length ca, .slice bo t.length cb] W (RetB (.tuple #[.agg (wkL r.1), .int .u8 (r.2 : Nat)]) W) from by
    have h2 := move_any j hj so sc x hx l t ao bo ca cb fp fq W (by omega) (by omega) (by omega) (hsrc.ext h) (hrd.ext h) (hrt.ext h)
    rw [hr] at h2
    exact h2))
  have HR := Lib.hid (fun y (hy : WkOk y) W (h : Below w.heap.size w W) => rmayw_any j hj so sc y hy W (by omega) (hsrc.ext h))
  clear hg hsrc hrd hrt hr g1 g2 g3 hyk
  obtain ⟨y, e⟩ := r
  simp only [wkL] at HMv hok
  go_enter Try.func3, Try.ntmps3
  go_upto_region 1 with fail
  rw [← hW2]
  clear hW2
  go_upto_region 4 with (first
    | (refine wpList_load_row rfl _ _ rfl w.heap.size rfl 28 (jobCs j so sc) (0, 0) _ HS2.out.job Try.underlying28 rfl (jb_info _ _ _) ?_)
    | (refine wpList_load_row rfl _ _ rfl w.heap.size rfl 28 (jobCs j so sc) (0, 0) _ S3.out.job Try.underlying28 rfl (jb_info _ _ _) ?_)
    | (refine wpList_load_row rfl _ _ rfl (w.heap.size + 1) rfl 30 (wkCs x) (0, 0) _ S3.out.wk Try.underlying30 rfl (wk_info _) ?_)
    | (go_at_call 12; (with_reducible refine (HG.out _).mono ?_); rintro e w3 ⟨rfl, hB⟩; have S3 := Lib.hid (HS2.out.ext hB); have B3 := Lib.hid (HB2.out.trans (hB.mono (by omega))); clear hB)
    | (go_at_call 14; (with_reducible refine (HMv.out _ B3.out).mono ?_); rintro e w4 ⟨rfl, hB⟩; have S4 := Lib.hid (S3.out.ext hB); have B4 := Lib.hid (B3.out.trans (hB.mono B3.out.size)); clear hB))
  obtain ⟨W5, hW5⟩ : ∃ W5, w4.alloc (.cells #[.int .u32 (y.id : Nat), .int .u32 (y.step : Nat), .int .u32 (y.at_ : Nat), .int .u32 (y.prev : Nat), .int .u32 (y.next : Nat), .int .u32 (y.try_ : Nat), .int .u32 (y.state : Nat)] 30) = W5 := ⟨_, rfl⟩
  rw [hW5]
  have hB45 : Below w4.heap.size w4 W5 := by rw [← hW5]; exact ext_alloc _ _
  have S5 := Lib.hid (S4.out.ext hB45)
  have B5 := Lib.hid (B4.out.trans (hB45.mono B4.out.size))
  have HY := Lib.hid (show W5.heap[w4.heap.size]? = some (.cells (wkCs y) 30 (0, 0)) by rw [← hW5]; exact heap_alloc_new _ _)
  clear hW5 hB45 HG HMv
  generalize (Value.agg #[.int .u32 (y.id : Nat), .int .u32 (y.step : Nat), .int .u32 (y.at_ : Nat), .int .u32 (y.prev : Nat), .int .u32 (y.next : Nat), .int .u32 (y.try_ : Nat), .int .u32 (y.state : Nat)]) = z1
  generalize hz2' : (Value.agg (wkCs x)) = z2
  generalize hz3' : (Value.agg (jobCs j so sc)) = z3
  clear hz2' hz3'
  rcases hok with ⟨h1, h2⟩ | ⟨h1, h2, h3, h4, h5, h6, h7⟩ | ⟨h1, h2, h3, h4, h5, h6⟩
  · simp only at h1 h2
    subst h1 h2
    have heq := eq_walker y y
    simp only [decide_true] at heq
    go_wp2_with (first
      | (refine wpList_load_row rfl _ _ rfl (w.heap.size + 1) rfl 30 (wkCs y) (0, 0) _ S5.out.wk Try.underlying30 rfl (wk_info _) ?_)
      | (refine wpList_load_row rfl _ _ rfl w4.heap.size rfl 30 (wkCs y) (0, 0) _ HY.out Try.underlying30 rfl (wk_info _) ?_)
      | (go_at_call 13; (with_reducible refine (HA.out _).mono ?_); rintro e w6 ⟨rfl, hB⟩; have B6 := Lib.hid (B5.out.trans (hB.mono B5.out.size)); clear hB))
    go_ret
    exact ⟨rfl, B6.out⟩
  · simp only at h1 h2 h3 h4 h5 h6 h7
    have hd := mayW_dest h2
    have hmj := mayJ_small (mayW_job h2)
    have htb : x.try_ ≤ 1024 := by have := hd.try_; omega
    have HRy := Lib.hid (show ∀ W, Below w.heap.size w W → Calls Try.prog 15 #[.agg (jobCs j so sc), .agg (wkCs y)] W (RetB (.bool true) W) from fun W h => by
      have h8 := HR.out y Hyk.out W h
      rw [h2] at h8
      exact h8)
    have HYk := Lib.hid (fun W (h : Below W5.heap.size W5 W) => (wk_cells HY.out).keep (h.block _ (Array.getElem?_eq_some_iff.1 HY.out).1))
    have HXk := Lib.hid (fun W (h : Below W5.heap.size W5 W) => (wk_cells (S5.out.ext h).wk))
    obtain ⟨y0, y1, y2, y3, y4, y5, y6⟩ := HYk.out _ (Below.refl _ _)
    obtain ⟨x0, x1, x2, x3, x4, x5, x6⟩ := HXk.out _ (Below.refl _ _)
    subst h1
    rw [h3] at y0
    rw [h4] at y1
    rw [h5] at y2
    rw [h6] at y3
    have HYk2 := Lib.hid (fun W (h : Below W5.heap.size W5 W) => (show W.cell? ⟨w4.heap.size, 0, none⟩ = some (.int .u32 (x.id : Nat)) ∧ W.cell? ⟨w4.heap.size, 1, none⟩ = some (.int .u32 (x.step : Nat)) ∧ W.cell? ⟨w4.heap.size, 2, none⟩ = some (.int .u32 (x.at_ : Nat)) ∧ W.cell? ⟨w4.heap.size, 3, none⟩ = some (.int .u32 (x.prev : Nat)) from by
      obtain ⟨q0, q1, q2, q3, _, _, _⟩ := HYk.out W h
      rw [h3] at q0
      rw [h4] at q1
      rw [h5] at q2
      rw [h6] at q3
      exact ⟨q0, q1, q2, q3⟩))
    rcases h7 with ⟨h7, h8⟩ | ⟨h7, h8, h9⟩
    · rw [h7] at y5
      rw [h8] at y6
      have y5 : W5.cell? ⟨w4.heap.size, 5, none⟩ = some (.int .u32 ((x.try_ : Int) + 1)) := y5
      have y6 : W5.cell? ⟨w4.heap.size, 6, none⟩ = some (.int .u32 0) := y6
      clear h2 h3 h4 h5 h6 h7 h8 hd hmj HR Hyk
      go_upto_region 9 with fail
      go_wp2_with (first
        | (refine wpList_load_row rfl _ _ rfl w.heap.size rfl 28 (jobCs j so sc) (0, 0) _ S5.out.job Try.underlying28 rfl (jb_info _ _ _) ?_)
        | (refine wpList_load_row rfl _ _ rfl w4.heap.size rfl 30 (wkCs y) (0, 0) _ HY.out Try.underlying30 rfl (wk_info _) ?_)
        | (go_at_call 15; (with_reducible refine (HRy.out _ B5.out).mono ?_); rintro e w6 ⟨rfl, hB⟩; obtain ⟨r0, r1, r2, r3⟩ := HYk2.out _ hB; obtain ⟨s0, s1, s2, s3, s4, s5, s6⟩ := HXk.out _ hB; have B6 := Lib.hid (B5.out.trans (hB.mono B5.out.size)); clear hB)
        | (go_at_call 13; (with_reducible refine (HA.out _).mono ?_); rintro e w7 ⟨rfl, hB⟩; have B7 := Lib.hid (B6.out.trans (hB.mono B6.out.size)); clear hB))
      go_ret
      exact ⟨rfl, B7.out⟩
    · rw [h7] at y5
      rw [h8] at x6
      rw [h9] at y6
      have x6 : W5.cell? ⟨w.heap.size + 1, 6, none⟩ = some (.int .u32 0) := x6
      have y6 : W5.cell? ⟨w4.heap.size, 6, none⟩ = some (.int .u32 1) := y6
      have f1 : ((x.try_ : Int) == (x.try_ : Int) + 1) = false := beq_eq_false_iff_ne.2 (by omega)
      have f1' : (x.try_ == x.try_ + 1) = false := beq_eq_false_iff_ne.2 (by omega)
      clear h2 h3 h4 h5 h6 h7 h8 h9 hd hmj HR Hyk
      go_upto_region 9 with fail
      go_wp2_with (first
        | (refine wpList_load_row rfl _ _ rfl w.heap.size rfl 28 (jobCs j so sc) (0, 0) _ S5.out.job Try.underlying28 rfl (jb_info _ _ _) ?_)
        | (refine wpList_load_row rfl _ _ rfl w4.heap.size rfl 30 (wkCs y) (0, 0) _ HY.out Try.underlying30 rfl (wk_info _) ?_)
        | (go_at_call 15; (with_reducible refine (HRy.out _ B5.out).mono ?_); rintro e w6 ⟨rfl, hB⟩; obtain ⟨r0, r1, r2, r3⟩ := HYk2.out _ hB; obtain ⟨s0, s1, s2, s3, s4, s5, s6⟩ := HXk.out _ hB; have B6 := Lib.hid (B5.out.trans (hB.mono B5.out.size)); clear hB)
        | (go_at_call 13; (with_reducible refine (HA.out _).mono ?_); rintro e w7 ⟨rfl, hB⟩; have B7 := Lib.hid (B6.out.trans (hB.mono B6.out.size)); clear hB))
      go_ret
      exact ⟨rfl, B7.out⟩
  · simp only at h1 h2 h3 h4 h5 h6
    have hd := mayW_dest h2
    have hmj := mayJ_small (mayW_job h2)
    have htb : x.step ≤ 65536 := by have := hd.step; omega
    have HRy := Lib.hid (show ∀ W, Below w.heap.size w W → Calls Try.prog 15 #[.agg (jobCs j so sc), .agg (wkCs y)] W (RetB (.bool true) W) from fun W h => by
      have h8 := HR.out y Hyk.out W h
      rw [h2] at h8
      exact h8)
    have HYk := Lib.hid (fun W (h : Below W5.heap.size W5 W) => (wk_cells HY.out).keep (h.block _ (Array.getElem?_eq_some_iff.1 HY.out).1))
    have HXk := Lib.hid (fun W (h : Below W5.heap.size W5 W) => (wk_cells (S5.out.ext h).wk))
    subst h1
    have HYk2 := Lib.hid (fun W (h : Below W5.heap.size W5 W) => (show W.cell? ⟨w4.heap.size, 0, none⟩ = some (.int .u32 (x.id : Nat)) ∧ W.cell? ⟨w4.heap.size, 1, none⟩ = some (.int .u32 ((x.step : Int) + 1)) ∧ W.cell? ⟨w4.heap.size, 5, none⟩ = some (.int .u32 0) ∧ W.cell? ⟨w4.heap.size, 6, none⟩ = some (.int .u32 0) from by
      obtain ⟨q0, q1, _, _, _, q5, q6⟩ := HYk.out W h
      rw [h3] at q0
      rw [h4] at q1
      rw [h5] at q5
      rw [h6] at q6
      exact ⟨q0, q1, q5, q6⟩))
    clear h2 h3 h4 h5 h6 hd hmj HR Hyk
    go_wp2_with (first
      | (refine wpList_load_rowg rfl _ _ rfl w.heap.size rfl 28 (jobCs j so sc) (0, 0) _ S5.out.job Try.underlying28 rfl (jb_info _ _ _) ?_)
      | (refine wpList_load_rowg rfl _ _ rfl w4.heap.size rfl 30 (wkCs y) (0, 0) _ HY.out Try.underlying30 rfl (wk_info _) ?_)
      | (go_at_call 15; (with_reducible refine (HRy.out _ B5.out).mono ?_); rintro e w6 ⟨rfl, hB⟩; obtain ⟨r0, r1, r5, r6⟩ := HYk2.out _ hB; obtain ⟨s0, s1, s2, s3, s4, s5, s6⟩ := HXk.out _ hB; have B6 := Lib.hid (B5.out.trans (hB.mono B5.out.size)); clear hB)
      | (go_at_call 13; (with_reducible refine (HA.out _).mono ?_); rintro e w7 ⟨rfl, hB⟩; have B7 := Lib.hid (B6.out.trans (hB.mono B6.out.size)); clear hB))
    go_ret
    exact ⟨rfl, B7.out⟩
end Go.Proofs.Ytlgnpogmgpgdaaa
