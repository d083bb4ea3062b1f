/- StepSame: the walk. -/
import Derived.Test.YtlgnpogmgpgdaaaKeepsW
import Derived.Test.YtlgnpogmgpgdaaaJobRef
namespace Go.Proofs.Ytlgnpogmgpgdaaa
set_option linter.unusedSimpArgs false
set_option linter.unusedVariables false
set_option maxRecDepth 100000
open Go.RowKit

def withJ (j : JobD) (b0 b1 b2 b3 best longer : Nat) : JobD := { j with length := longer, best := best, bsh := b0, bro := b1, bpo := b2, bso := b3 }
theorem withJ_ok {j : JobD} (hj : JobOk j) {b0 b1 b2 b3 best longer : Nat} (h0 : b0 < 4294967296) (h1 : b1 < 4294967296) (h2 : b2 < 4294967296) (h3 : b3 < 4294967296) (h4 : best < 4294967296) (h5 : longer < 4294967296) : JobOk (withJ j b0 b1 b2 b3 best longer) :=
  ⟨hj.kind, hj.seed, h5, hj.walks, hj.src, hj.stop, hj.od, hj.p, hj.q, hj.tries, h4, h0, h1, h2, h3⟩
theorem withJ_same (j : JobD) (b0 b1 b2 b3 best longer : Nat) : SameJ j (withJ j b0 b1 b2 b3 best longer) := ⟨rfl, rfl, rfl, rfl, rfl, rfl, rfl, rfl, rfl⟩
set_option maxRecDepth 100000 in
set_option maxHeartbeats 6400000 in
theorem same_walk (j : JobD) (hj : JobOk j) (so : Option Addr) (sc : Nat) (x : WkD) (hx : WkOk x) (l : List ArcD) (t : List CellD) (ao bo : Option Addr) (ca cb : Nat) (fp fq : Nat → Prop) (b0 b1 b2 b3 best longer : Nat) (h0 : b0 < 4294967296) (h1 : b1 < 4294967296) (h2 : b2 < 4294967296) (h3 : b3 < 4294967296) (h4 : best < 4294967296) (h5 : longer < 4294967296)
    (w : World) (hsrc : Rd w so j.src.length (u32s j.src)) (hrd : RdS arcRep fp w ao l) (hrt : RdS cellRep fq w bo t) :
    Calls Try.prog 5 #[.agg (jobCs j so sc), .agg (wkCs x), .slice ao l.length ca, .slice bo t.length cb, .agg #[.int .u32 (b0 : Nat), .int .u32 (b1 : Nat), .int .u32 (b2 : Nat), .int .u32 (b3 : Nat)], .int .u32 (best : Nat), .int .u32 (longer : Nat)] w (RetB (.bool true) w) := by
  have HA := Lib.hid awake21_any
  obtain ⟨W2, hW2⟩ : ∃ W2, W2 = ((w.alloc (.cells (jobCs j so sc) 28)).alloc (.cells (wkCs x) 30)).alloc (.cells #[.int .u32 (b0 : Nat), .int .u32 (b1 : Nat), .int .u32 (b2 : Nat), .int .u32 (b3 : Nat)] 26) := ⟨_, rfl⟩
  have hz2 : W2.heap.size = w.heap.size + 3 := by rw [hW2]; simp
  have HB2 := Lib.hid (show Below w.heap.size w W2 by rw [hW2]; exact ((ext_alloc w _).alloc (by simp) _).alloc (by simp; omega) _)
  have HS2 := Lib.hid (show JxW w.heap.size j so sc x W2 by rw [hW2]; exact ⟨(Below.heap_alloc _ _ _ (by simp; omega)).trans (heap_alloc2_old _ _ _), (Below.heap_alloc _ _ _ (by simp)).trans (heap_alloc2_new _ _ _)⟩)
  have Hb2 := Lib.hid (show W2.heap[w.heap.size + 2]? = some (.cells #[.int .u32 (b0 : Nat), .int .u32 (b1 : Nat), .int .u32 (b2 : Nat), .int .u32 (b3 : Nat)] 26 (0, 0)) by
    have h := heap_alloc_new ((w.alloc (.cells (jobCs j so sc) 28)).alloc (.cells (wkCs x) 30)) (.cells #[.int .u32 (b0 : Nat), .int .u32 (b1 : Nat), .int .u32 (b2 : Nat), .int .u32 (b3 : Nat)] 26)
    rw [World.size_alloc, World.size_alloc] at h
    rw [hW2]; exact h)
  have HL := Lib.hid (show W2.heap[w.heap.size]? = some (.cells #[.int .u8 (j.kind : Nat), .int .u64 (j.seed : Nat), .int .u32 (j.length : Nat), .int .u32 (j.walks : Nat), .slice so j.src.length sc, .int .u32 (j.stop : Nat), .int .u32 (j.od : Nat), .int .u32 (j.p : Nat), .int .u32 (j.q : Nat), .int .u32 (j.tries : Nat), .int .u32 (j.best : Nat), .int .u32 (j.bsh : Nat), .int .u32 (j.bro : Nat), .int .u32 (j.bpo : Nat), .int .u32 (j.bso : Nat)] 28 (0, 0)) from HS2.out.job)
  have Hb3 := Lib.hid (fun o => (show (W2.alloc o).heap[w.heap.size + 2]? = some (.cells #[.int .u32 (b0 : Nat), .int .u32 (b1 : Nat), .int .u32 (b2 : Nat), .int .u32 (b3 : Nat)] 26 (0, 0)) from (Below.heap_alloc _ _ _ (by omega)).trans Hb2.out))
  have HW2 := Lib.hid hW2
  clear hW2
  go_enter Try.func5, Try.ntmps5
  go_upto_region 1 with fail
  rw [← HW2.out]
  clear HW2
  go_upto_region 5 with (first
    | (refine wpList_load_row rfl _ _ rfl w.heap.size rfl 28 _ (0, 0) _ HL.out Try.underlying28 rfl (show _ = some 15 by kernel_rfl) ?_)
    | (refine wpList_load_row rfl _ _ rfl (w.heap.size + 2) rfl 26 _ (0, 0) _ (Hb3.out _) Try.underlying26 rfl (show _ = some 4 by kernel_rfl) ?_))
  obtain ⟨W3, hW3⟩ : ∃ W3, W2.alloc (.cells #[.int .u8 (j.kind : Nat), .int .u64 (j.seed : Nat), .int .u32 (longer : Nat), .int .u32 (j.walks : Nat), .slice so j.src.length sc, .int .u32 (j.stop : Nat), .int .u32 (j.od : Nat), .int .u32 (j.p : Nat), .int .u32 (j.q : Nat), .int .u32 (j.tries : Nat), .int .u32 (best : Nat), .int .u32 (b0 : Nat), .int .u32 (b1 : Nat), .int .u32 (b2 : Nat), .int .u32 (b3 : Nat)] 28) = W3 := ⟨_, rfl⟩
  rw [hW3]
  have hk := withJ_ok hj h0 h1 h2 h3 h4 h5
  have hsm := withJ_same j b0 b1 b2 b3 best longer
  obtain ⟨k, hke⟩ : ∃ k, withJ j b0 b1 b2 b3 best longer = k := ⟨_, rfl⟩
  have hB23 : Below W2.heap.size W2 W3 := by rw [← hW3]; exact ext_alloc _ _
  have S3 := Lib.hid (HS2.out.ext hB23)
  have B3 := Lib.hid (HB2.out.trans (hB23.mono (by omega)))
  have hlk : k.length = longer := by rw [← hke]; rfl
  have K3 := Lib.hid (show W3.heap[w.heap.size + 3]? = some (.cells (jobCs k so sc) 28 (0, 0)) by rw [← hW3, ← hz2, ← hke]; exact heap_alloc_new _ _)
  rw [hke] at hk hsm
  clear hW3 hke hB23 HB2 HS2 Hb2 Hb3 HL hz2
  have HK := Lib.hid (fun (W W' : World) (h : W.heap[w.heap.size + 3]? = some (.cells (jobCs k so sc) 28 (0, 0))) (hB : Below W.heap.size W W') => (hB.block _ (Array.getElem?_eq_some_iff.1 h).1).trans h)
  generalize (Value.agg #[.int .u32 (b0 : Nat), .int .u32 (b1 : Nat), .int .u32 (b2 : Nat), .int .u32 (b3 : Nat)]) = z4
  generalize (Value.agg #[.int .u8 (j.kind : Nat), .int .u64 (j.seed : Nat), .int .u32 (j.length : Nat), .int .u32 (j.walks : Nat), .slice so j.src.length sc, .int .u32 (j.stop : Nat), .int .u32 (j.od : Nat), .int .u32 (j.p : Nat), .int .u32 (j.q : Nat), .int .u32 (j.tries : Nat), .int .u32 (j.best : Nat), .int .u32 (j.bsh : Nat), .int .u32 (j.bro : Nat), .int .u32 (j.bpo : Nat), .int .u32 (j.bso : Nat)]) = z5
  generalize hz0 : (Value.agg (jobCs j so sc)) = z0
  generalize hz1 : (Value.agg (wkCs x)) = z1
  clear hz0 hz1
  have HG := Lib.hid (fun W => great_any j so sc l.length t.length ao bo ca cb W)
  have hsk : k.src = j.src := hsm.src
  cases hg : greatB j.src.length l.length t.length with
  | true =>
    rw [hg] at HG
    clear hg hsrc hrd hrt hsk hsm hk
    go_wp2_with (first
      | (refine wpList_load_row rfl _ _ rfl w.heap.size rfl 28 (jobCs j so sc) (0, 0) _ S3.out.job Try.underlying28 rfl (jb_info _ _ _) ?_)
      | (refine wpList_load_rowg rfl _ _ rfl w.heap.size rfl 28 (jobCs j so sc) (0, 0) _ S4.out.job Try.underlying28 rfl (jb_info _ _ _) ?_)
      | (refine wpList_load_rowg rfl _ _ rfl (w.heap.size + 3) rfl 28 (jobCs k so sc) (0, 0) _ K5.out Try.underlying28 rfl (jb_info _ _ _) ?_)
      | (go_at_call 12; (with_reducible refine (HG.out _).mono ?_); rintro e w4 ⟨rfl, hB⟩; have S4 := Lib.hid (S3.out.ext hB); have K4 := Lib.hid (HK.out _ _ K3.out hB); have B4 := Lib.hid (B3.out.trans (hB.mono B3.out.size)); clear hB)
      | (go_at_call 18; (with_reducible refine (HMj.out _ B4.out).mono ?_); rintro e w5 ⟨rfl, hB⟩; have S5 := Lib.hid (S4.out.ext hB); have K5 := Lib.hid (HK.out _ _ K4.out hB); have B5 := Lib.hid (B4.out.trans (hB.mono B4.out.size)); clear hB)
      | (go_at_call 18; (with_reducible refine (HMk.out _ B5.out).mono ?_); rintro e w6 ⟨rfl, hB⟩; have S6 := Lib.hid (S5.out.ext hB); have K6 := Lib.hid (HK.out _ _ K5.out hB); have B6 := Lib.hid (B5.out.trans (hB.mono B5.out.size)); clear hB)
      | (go_at_call 13; (with_reducible refine (HA.out _).mono ?_); rintro e w9 ⟨rfl, hB⟩; have B9 := Lib.hid (B4.out.trans (hB.mono B4.out.size)); clear hB))
    go_ret
    exact ⟨rfl, B9.out⟩
  | false =>
  obtain ⟨g1, g2, g3⟩ := great_no hg
  rw [hg] at HG
  have HMj := Lib.hid (fun W (h : Below w.heap.size w W) => rmay_any j hj so sc W (by omega) (hsrc.ext h))
  have HMk := Lib.hid (fun W (h : Below w.heap.size w W) => rmay_any k hk so sc W (by rw [hsk]; omega) (by rw [hsk]; exact hsrc.ext h))
  cases hmj : mayJ j with
  | false =>
    rw [hmj] at HMj
    clear hg hsrc hrd hrt hmj hsk hsm hk
    go_wp2_with (first
      | (refine wpList_load_row rfl _ _ rfl w.heap.size rfl 28 (jobCs j so sc) (0, 0) _ S3.out.job Try.underlying28 rfl (jb_info _ _ _) ?_)
      | (refine wpList_load_rowg rfl _ _ rfl w.heap.size rfl 28 (jobCs j so sc) (0, 0) _ S4.out.job Try.underlying28 rfl (jb_info _ _ _) ?_)
      | (refine wpList_load_rowg rfl _ _ rfl (w.heap.size + 3) rfl 28 (jobCs k so sc) (0, 0) _ K5.out Try.underlying28 rfl (jb_info _ _ _) ?_)
      | (go_at_call 12; (with_reducible refine (HG.out _).mono ?_); rintro e w4 ⟨rfl, hB⟩; have S4 := Lib.hid (S3.out.ext hB); have K4 := Lib.hid (HK.out _ _ K3.out hB); have B4 := Lib.hid (B3.out.trans (hB.mono B3.out.size)); clear hB)
      | (go_at_call 18; (with_reducible refine (HMj.out _ B4.out).mono ?_); rintro e w5 ⟨rfl, hB⟩; have S5 := Lib.hid (S4.out.ext hB); have K5 := Lib.hid (HK.out _ _ K4.out hB); have B5 := Lib.hid (B4.out.trans (hB.mono B4.out.size)); clear hB)
      | (go_at_call 18; (with_reducible refine (HMk.out _ B5.out).mono ?_); rintro e w6 ⟨rfl, hB⟩; have S6 := Lib.hid (S5.out.ext hB); have K6 := Lib.hid (HK.out _ _ K5.out hB); have B6 := Lib.hid (B5.out.trans (hB.mono B5.out.size)); clear hB)
      | (go_at_call 13; (with_reducible refine (HA.out _).mono ?_); rintro e w9 ⟨rfl, hB⟩; have B9 := Lib.hid (B5.out.trans (hB.mono B5.out.size)); clear hB))
    go_ret
    exact ⟨rfl, B9.out⟩
  | true =>
  rw [hmj] at HMj
  cases hmk : mayJ k with
  | false =>
    rw [hmk] at HMk
    clear hg hsrc hrd hrt hmj hmk hsk hsm hk
    go_wp2_with (first
      | (refine wpList_load_row rfl _ _ rfl w.heap.size rfl 28 (jobCs j so sc) (0, 0) _ S3.out.job Try.underlying28 rfl (jb_info _ _ _) ?_)
      | (refine wpList_load_rowg rfl _ _ rfl w.heap.size rfl 28 (jobCs j so sc) (0, 0) _ S4.out.job Try.underlying28 rfl (jb_info _ _ _) ?_)
      | (refine wpList_load_rowg rfl _ _ rfl (w.heap.size + 3) rfl 28 (jobCs k so sc) (0, 0) _ K5.out Try.underlying28 rfl (jb_info _ _ _) ?_)
      | (go_at_call 12; (with_reducible refine (HG.out _).mono ?_); rintro e w4 ⟨rfl, hB⟩; have S4 := Lib.hid (S3.out.ext hB); have K4 := Lib.hid (HK.out _ _ K3.out hB); have B4 := Lib.hid (B3.out.trans (hB.mono B3.out.size)); clear hB)
      | (go_at_call 18; (with_reducible refine (HMj.out _ B4.out).mono ?_); rintro e w5 ⟨rfl, hB⟩; have S5 := Lib.hid (S4.out.ext hB); have K5 := Lib.hid (HK.out _ _ K4.out hB); have B5 := Lib.hid (B4.out.trans (hB.mono B4.out.size)); clear hB)
      | (go_at_call 18; (with_reducible refine (HMk.out _ B5.out).mono ?_); rintro e w6 ⟨rfl, hB⟩; have S6 := Lib.hid (S5.out.ext hB); have K6 := Lib.hid (HK.out _ _ K5.out hB); have B6 := Lib.hid (B5.out.trans (hB.mono B5.out.size)); clear hB)
      | (go_at_call 13; (with_reducible refine (HA.out _).mono ?_); rintro e w9 ⟨rfl, hB⟩; have B9 := Lib.hid (B6.out.trans (hB.mono B6.out.size)); clear hB))
    go_ret
    exact ⟨rfl, B9.out⟩
  | true =>
  rw [hmk] at HMk
  have HC := Lib.hid (fun W (h : JxW w.heap.size j so sc x W) => (show W.cell? ⟨w.heap.size, 2, none⟩ = some (.int .u32 (j.length : Nat)) ∧ W.cell? ⟨w.heap.size + 1, 1, none⟩ = some (.int .u32 (x.step : Nat)) from ⟨cell_of_row W _ 2 _ _ (0, 0) h.job, (wk_cells h.wk).2.1⟩))
  by_cases hll : longer ≤ j.length
  · have d1 : decide (longer ≤ j.length) = true := decide_eq_true hll
    have d1' : decide ((longer : Int) ≤ (j.length : Int)) = true := decide_eq_true (by omega)
    clear hg hsrc hrd hrt hmj hmk hsk hsm hk hll
    go_wp2_with (first
      | (refine wpList_load_row rfl _ _ rfl w.heap.size rfl 28 (jobCs j so sc) (0, 0) _ S3.out.job Try.underlying28 rfl (jb_info _ _ _) ?_)
      | (refine wpList_load_rowg rfl _ _ rfl w.heap.size rfl 28 (jobCs j so sc) (0, 0) _ S4.out.job Try.underlying28 rfl (jb_info _ _ _) ?_)
      | (refine wpList_load_rowg rfl _ _ rfl (w.heap.size + 3) rfl 28 (jobCs k so sc) (0, 0) _ K5.out Try.underlying28 rfl (jb_info _ _ _) ?_)
      | (go_at_call 12; (with_reducible refine (HG.out _).mono ?_); rintro e w4 ⟨rfl, hB⟩; have S4 := Lib.hid (S3.out.ext hB); have K4 := Lib.hid (HK.out _ _ K3.out hB); have B4 := Lib.hid (B3.out.trans (hB.mono B3.out.size)); clear hB)
      | (go_at_call 18; (with_reducible refine (HMj.out _ B4.out).mono ?_); rintro e w5 ⟨rfl, hB⟩; have S5 := Lib.hid (S4.out.ext hB); have K5 := Lib.hid (HK.out _ _ K4.out hB); have B5 := Lib.hid (B4.out.trans (hB.mono B4.out.size)); clear hB)
      | (go_at_call 18; (with_reducible refine (HMk.out _ B5.out).mono ?_); rintro e w6 ⟨rfl, hB⟩; have S6 := Lib.hid (S5.out.ext hB); have K6 := Lib.hid (HK.out _ _ K5.out hB); have B6 := Lib.hid (B5.out.trans (hB.mono B5.out.size)); obtain ⟨cj, cx⟩ := HC.out _ S6.out; clear hB)
      | (go_at_call 13; (with_reducible refine (HA.out _).mono ?_); rintro e w9 ⟨rfl, hB⟩; have B9 := Lib.hid (B6.out.trans (hB.mono B6.out.size)); clear hB))
    go_ret
    exact ⟨rfl, B9.out⟩
  have d1 : decide (longer ≤ j.length) = false := decide_eq_false hll
  have d1' : decide ((longer : Int) ≤ (j.length : Int)) = false := decide_eq_false (by omega)
  by_cases hxl : x.step = j.length
  · have d2 : (x.step == j.length) = true := beq_iff_eq.2 hxl
    have d2' : ((x.step : Int) == (j.length : Int)) = true := beq_iff_eq.2 (by omega)
    clear hg hsrc hrd hrt hmj hmk hsk hsm hk hll hxl
    go_wp2_with (first
      | (refine wpList_load_row rfl _ _ rfl w.heap.size rfl 28 (jobCs j so sc) (0, 0) _ S3.out.job Try.underlying28 rfl (jb_info _ _ _) ?_)
      | (refine wpList_load_rowg rfl _ _ rfl w.heap.size rfl 28 (jobCs j so sc) (0, 0) _ S4.out.job Try.underlying28 rfl (jb_info _ _ _) ?_)
      | (refine wpList_load_rowg rfl _ _ rfl (w.heap.size + 3) rfl 28 (jobCs k so sc) (0, 0) _ K5.out Try.underlying28 rfl (jb_info _ _ _) ?_)
      | (go_at_call 12; (with_reducible refine (HG.out _).mono ?_); rintro e w4 ⟨rfl, hB⟩; have S4 := Lib.hid (S3.out.ext hB); have K4 := Lib.hid (HK.out _ _ K3.out hB); have B4 := Lib.hid (B3.out.trans (hB.mono B3.out.size)); clear hB)
      | (go_at_call 18; (with_reducible refine (HMj.out _ B4.out).mono ?_); rintro e w5 ⟨rfl, hB⟩; have S5 := Lib.hid (S4.out.ext hB); have K5 := Lib.hid (HK.out _ _ K4.out hB); have B5 := Lib.hid (B4.out.trans (hB.mono B4.out.size)); clear hB)
      | (go_at_call 18; (with_reducible refine (HMk.out _ B5.out).mono ?_); rintro e w6 ⟨rfl, hB⟩; have S6 := Lib.hid (S5.out.ext hB); have K6 := Lib.hid (HK.out _ _ K5.out hB); have B6 := Lib.hid (B5.out.trans (hB.mono B5.out.size)); obtain ⟨cj, cx⟩ := HC.out _ S6.out; clear hB)
      | (go_at_call 13; (with_reducible refine (HA.out _).mono ?_); rintro e w9 ⟨rfl, hB⟩; have B9 := Lib.hid (B6.out.trans (hB.mono B6.out.size)); clear hB))
    go_ret
    exact ⟨rfl, B9.out⟩
  have d2 : (x.step == j.length) = false := beq_eq_false_iff_ne.2 hxl
  have d2' : ((x.step : Int) == (j.length : Int)) = false := beq_eq_false_iff_ne.2 (by omega)
  have HVj := Lib.hid (fun W (h : Below w.heap.size w W) => move_any j hj so sc x hx l t ao bo ca cb fp fq W (by omega) (by omega) (by omega) (hsrc.ext h) (hrd.ext h) (hrt.ext h))
  have HVk := Lib.hid (fun W (h : Below w.heap.size w W) => move_any k hk so sc x hx l t ao bo ca cb fp fq W (by omega) (by omega) (by rw [hsk]; omega) (by rw [hsk]; exact hsrc.ext h) (hrd.ext h) (hrt.ext h))
  unfold moveV at HVj HVk
  have HR := Lib.hid (show (j.length < x.step → moveM j x l t = (x, 0)) ∧ (x.step < j.length → moveM k x l t = moveM j x l t) from
    ⟨fun h => by unfold moveM; rw [mayW_bad (.inr (.inl h))]; rfl, fun h => move_same hmj hmk hsm h (by omega) l t⟩)
  clear hg hsrc hrd hrt hmj hmk hsk hsm hk hlk
  obtain ⟨ry, hry⟩ : ∃ r, moveM j x l t = r := ⟨_, rfl⟩
  obtain ⟨rz, hrz⟩ : ∃ r, moveM k x l t = r := ⟨_, rfl⟩
  rw [hry] at HVj HR
  rw [hrz] at HVk HR
  clear hry hrz
  go_upto_region 7 with (first
    | (refine wpList_load_row rfl _ _ rfl w.heap.size rfl 28 (jobCs j so sc) (0, 0) _ S3.out.job Try.underlying28 rfl (jb_info _ _ _) ?_)
      | (refine wpList_load_rowg rfl _ _ rfl w.heap.size rfl 28 (jobCs j so sc) (0, 0) _ S4.out.job Try.underlying28 rfl (jb_info _ _ _) ?_)
      | (refine wpList_load_rowg rfl _ _ rfl (w.heap.size + 3) rfl 28 (jobCs k so sc) (0, 0) _ K5.out Try.underlying28 rfl (jb_info _ _ _) ?_)
      | (go_at_call 12; (with_reducible refine (HG.out _).mono ?_); rintro e w4 ⟨rfl, hB⟩; have S4 := Lib.hid (S3.out.ext hB); have K4 := Lib.hid (HK.out _ _ K3.out hB); have B4 := Lib.hid (B3.out.trans (hB.mono B3.out.size)); clear hB)
      | (go_at_call 18; (with_reducible refine (HMj.out _ B4.out).mono ?_); rintro e w5 ⟨rfl, hB⟩; have S5 := Lib.hid (S4.out.ext hB); have K5 := Lib.hid (HK.out _ _ K4.out hB); have B5 := Lib.hid (B4.out.trans (hB.mono B4.out.size)); clear hB)
      | (go_at_call 18; (with_reducible refine (HMk.out _ B5.out).mono ?_); rintro e w6 ⟨rfl, hB⟩; have S6 := Lib.hid (S5.out.ext hB); have K6 := Lib.hid (HK.out _ _ K5.out hB); have B6 := Lib.hid (B5.out.trans (hB.mono B5.out.size)); obtain ⟨cj, cx⟩ := HC.out _ S6.out; clear hB)
    | fail)
  obtain ⟨y, e⟩ := ry
  obtain ⟨z, f⟩ := rz
  have HVj := Lib.hid (fun W (h : Below w.heap.size w W) => (show Calls Try.prog 14 #[.agg (jobCs j so sc), .agg (wkCs x), .slice ao l.length ca, .slice bo t.length cb] W (RetB (.tuple #[.agg #[.int .u32 (y.id : Nat), .int .u32 (y.step : Nat), .int .u32 (y.at_ : Nat), .int .u32 (y.prev : Nat), .int .u32 (y.next : Nat), .int .u32 (y.try_ : Nat), .int .u32 (y.state : Nat)], .int .u8 (e : Nat)]) W) from HVj.out W h))
  have HVk := Lib.hid (fun W (h : Below w.heap.size w W) => (show Calls Try.prog 14 #[.agg (jobCs k so sc), .agg (wkCs x), .slice ao l.length ca, .slice bo t.length cb] W (RetB (.tuple #[.agg #[.int .u32 (z.id : Nat), .int .u32 (z.step : Nat), .int .u32 (z.at_ : Nat), .int .u32 (z.prev : Nat), .int .u32 (z.next : Nat), .int .u32 (z.try_ : Nat), .int .u32 (z.state : Nat)], .int .u8 (f : Nat)]) W) from HVk.out W h))
  clear HG HMj HMk cj cx
  go_upto_region 8 with (first
    | (refine wpList_load_row rfl _ _ rfl w.heap.size rfl 28 (jobCs j so sc) (0, 0) _ S6.out.job Try.underlying28 rfl (jb_info _ _ _) ?_)
    | (refine wpList_load_row rfl _ _ rfl (w.heap.size + 1) rfl 30 (wkCs x) (0, 0) _ S6.out.wk Try.underlying30 rfl (wk_info _) ?_)
    | (go_at_call 14; (with_reducible refine (HVj.out _ B6.out).mono ?_); rintro e' w7 ⟨rfl, hB⟩; have S7 := Lib.hid (S6.out.ext hB); have K7 := Lib.hid (HK.out _ _ K6.out hB); have B7 := Lib.hid (B6.out.trans (hB.mono B6.out.size)); clear hB))
  obtain ⟨W8, hW8⟩ : ∃ W8, w7.alloc (.cells #[.int .u32 (y.id : Nat), .int .u32 (y.step : Nat), .int .u32 (y.at_ : Nat), .int .u32 (y.prev : Nat), .int .u32 (y.next : Nat), .int .u32 (y.try_ : Nat), .int .u32 (y.state : Nat)] 30) = W8 := ⟨_, rfl⟩
  rw [hW8]
  have hB78 : Below w7.heap.size w7 W8 := by rw [← hW8]; exact ext_alloc _ _
  have S8 := Lib.hid (S7.out.ext hB78)
  have K8 := Lib.hid (HK.out _ _ K7.out hB78)
  have B8 := Lib.hid (B7.out.trans (hB78.mono B7.out.size))
  have Y8 := Lib.hid (show W8.heap[w7.heap.size]? = some (.cells (wkCs y) 30 (0, 0)) by rw [← hW8]; exact heap_alloc_new _ _)
  clear hW8 hB78
  generalize (Value.agg #[.int .u32 (y.id : Nat), .int .u32 (y.step : Nat), .int .u32 (y.at_ : Nat), .int .u32 (y.prev : Nat), .int .u32 (y.next : Nat), .int .u32 (y.try_ : Nat), .int .u32 (y.state : Nat)]) = z6
  go_upto_region 9 with (first
    | (refine wpList_load_row rfl _ _ rfl (w.heap.size + 3) rfl 28 (jobCs k so sc) (0, 0) _ K8.out Try.underlying28 rfl (jb_info _ _ _) ?_)
    | (refine wpList_load_row rfl _ _ rfl (w.heap.size + 1) rfl 30 (wkCs x) (0, 0) _ S8.out.wk Try.underlying30 rfl (wk_info _) ?_)
    | (go_at_call 14; (with_reducible refine (HVk.out _ B8.out).mono ?_); rintro e' w9 ⟨rfl, hB⟩; have S9 := Lib.hid (S8.out.ext hB); have Y9 := Lib.hid ((hB.block _ (Array.getElem?_eq_some_iff.1 Y8.out).1).trans Y8.out); have B9 := Lib.hid (B8.out.trans (hB.mono B8.out.size)); clear hB))
  obtain ⟨W10, hW10⟩ : ∃ W10, w9.alloc (.cells #[.int .u32 (z.id : Nat), .int .u32 (z.step : Nat), .int .u32 (z.at_ : Nat), .int .u32 (z.prev : Nat), .int .u32 (z.next : Nat), .int .u32 (z.try_ : Nat), .int .u32 (z.state : Nat)] 30) = W10 := ⟨_, rfl⟩
  rw [hW10]
  have hB910 : Below w9.heap.size w9 W10 := by rw [← hW10]; exact ext_alloc _ _
  have S10 := Lib.hid (S9.out.ext hB910)
  have B10 := Lib.hid (B9.out.trans (hB910.mono B9.out.size))
  have Y10 := Lib.hid ((hB910.block _ (Array.getElem?_eq_some_iff.1 Y9.out).1).trans Y9.out)
  have Z10 := Lib.hid (show W10.heap[w9.heap.size]? = some (.cells (wkCs z) 30 (0, 0)) by rw [← hW10]; exact heap_alloc_new _ _)
  clear hW10 hB910
  generalize (Value.agg #[.int .u32 (z.id : Nat), .int .u32 (z.step : Nat), .int .u32 (z.at_ : Nat), .int .u32 (z.prev : Nat), .int .u32 (z.next : Nat), .int .u32 (z.try_ : Nat), .int .u32 (z.state : Nat)]) = z7
  generalize (Value.agg (jobCs k so sc)) = z8
  generalize (Value.agg (jobCs j so sc)) = z9
  generalize hz10 : (Value.agg (wkCs x)) = z10
  clear hz10
  obtain ⟨cj, cx⟩ := HC.out _ S10.out
  obtain ⟨hr1, hr2⟩ := HR.out
  by_cases hgt : j.length < x.step
  · have d3 : decide (j.length < x.step) = true := decide_eq_true hgt
    have d3' : decide ((j.length : Int) < (x.step : Int)) = true := decide_eq_true (by omega)
    have h0 := hr1 hgt
    simp only [Prod.mk.injEq] at h0
    obtain ⟨_, rfl⟩ := h0
    clear hr1 hr2 HR hll hxl hgt HVj HVk
    go_wp2_with (go_at_call 13; (with_reducible refine (HA.out _).mono ?_); rintro e' w11 ⟨rfl, hB⟩; have B11 := Lib.hid (B10.out.trans (hB.mono B10.out.size)); clear hB)
    go_ret
    exact ⟨rfl, B11.out⟩
  · have d3 : decide (j.length < x.step) = false := decide_eq_false hgt
    have d3' : decide ((j.length : Int) < (x.step : Int)) = false := decide_eq_false (by omega)
    have h0 := hr2 (by omega)
    simp only [Prod.mk.injEq] at h0
    obtain ⟨rfl, rfl⟩ := h0
    have heq := eq_walker z z
    simp only [decide_true] at heq
    clear hr1 hr2 HR hll hxl hgt HVj HVk
    go_wp2_with (first
      | (refine wpList_load_row rfl _ _ rfl w7.heap.size rfl 30 (wkCs z) (0, 0) _ Y10.out Try.underlying30 rfl (wk_info _) ?_)
      | (refine wpList_load_row rfl _ _ rfl w9.heap.size rfl 30 (wkCs z) (0, 0) _ Z10.out Try.underlying30 rfl (wk_info _) ?_)
      | (go_at_call 13; (with_reducible refine (HA.out _).mono ?_); rintro e' w11 ⟨rfl, hB⟩; have B11 := Lib.hid (B10.out.trans (hB.mono B10.out.size)); clear hB))
    go_ret
    exact ⟨rfl, B11.out⟩
end Go.Proofs.Ytlgnpogmgpgdaaa
