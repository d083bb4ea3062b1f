/- StepEnds: the walk. -/
import Derived.Test.YtlgnpogmgpgdaaaBdEnds
import Derived.Test.YtlgnpogmgpgdaaaArcsW
namespace Go.Proofs.Ytlgnpogmgpgdaaa
set_option linter.unusedSimpArgs false
set_option linter.unusedVariables false
set_option maxRecDepth 100000
open Go.RowKit

/-- the job's row and the walker's -/
def WMG (b g : Nat) (jc wc : Array Value) (w' : World) : Prop := w'.heap[b]? = some (.cells jc 28 (0, 0)) ∧ w'.heap[g]? = some (.cells wc 30 (0, 0))
theorem WMG.keep {b g : Nat} {jc wc : Array Value} {w w' : World} (h : WMG b g jc wc w) (hB : Below w.heap.size w w') : WMG b g jc wc w' :=
  ⟨(hB.block b (Array.getElem?_eq_some_iff.1 h.1).1).trans h.1, (hB.block g (Array.getElem?_eq_some_iff.1 h.2).1).trans h.2⟩
theorem WMG.only {b g k : Nat} {jc wc : Array Value} {w w' : World} (h : WMG b g jc wc w) (hO : Only (fun i => i = k) w w') (hb : b < k) (hg : g < k) : WMG b g jc wc w' :=
  ⟨(hO.same b (Array.getElem?_eq_some_iff.1 h.1).1 (by omega)).trans h.1, (hO.same g (Array.getElem?_eq_some_iff.1 h.2).1 (by omega)).trans h.2⟩
/-- what a Move leaves, of whatever table -/
def EndRet (j : JobD) (x : WkD) (l : List ArcD) (w : World) (e : Ending) (w' : World) : Prop :=
  ∃ (r : WkD × Nat) (yc : Array Value), Hid (yc = wkCs r.1) ∧ (∃ t, r = moveM j x l t) ∧ e = .returned (.tuple #[.agg yc, .int .u8 (r.2 : Nat)]) ∧ Below w.heap.size w w'
theorem ends_move {j : JobD} (hj : JobOk j) {so : Option Addr} {sc : Nat} {x : WkD} (hx : WkOk x) {l : List ArcD} {ao : Option Addr} {ca : Nat} {fp : Nat → Prop} {w w0 : World} (h1 : l.length ≤ 100) (h2 : j.src.length ≤ 300)
    (hsrc : Rd w0 so j.src.length (u32s j.src)) (hw : Below w0.heap.size w0 w) (hrd : RdS arcRep fp w ao l) (W : World) (hB : Below w.heap.size w W) (T : List CellD) (bo : Option Addr) (cb : Nat) (fq : Nat → Prop) (hT : T.length = l.length) (hrt : RdS cellRep fq W bo T) :
    Calls Try.prog 14 #[.agg (jobCs j so sc), .agg (wkCs x), .slice ao l.length ca, .slice bo l.length cb] W (EndRet j x l W) := by
  have h := move_any j hj so sc x hx l T ao bo ca cb fp fq W (by omega) (by omega) (by omega) (hsrc.ext (hw.trans (hB.mono hw.size))) (hrd.ext hB) hrt
  rw [hT] at h
  refine h.mono fun e w' he => ?_
  exact ⟨moveM j x l T, _, Lib.hid rfl, ⟨T, rfl⟩, he.1, he.2⟩
def EndsCut (j : JobD) (x : WkD) (l : List ArcD) (b g : Nat) (jc wc : Array Value) (w7 : World) (v14 v15 : Value) (wx : World) : Prop :=
  ∃ (r : WkD × Nat) (g2 : Nat), v15 = .int .u8 (r.2 : Nat) ∧ v14 = .pointer (some ⟨g2, 0, none⟩) ∧ (∃ t, r = moveM j x l t) ∧ wx.heap[g2]? = some (.cells (wkCs r.1) 30 (0, 0)) ∧ WMG b g jc wc wx ∧ Below w7.heap.size w7 wx
/-- so many moves are made -/
def endsI (j : JobD) (g : Nat) (w4 : World) (v : Value) (wr : World) : Prop :=
  ∃ (n : Nat) (x : WkD), v = .int .u64 (n : Nat) ∧ EndI j n x ∧ WkOk x ∧ wr.heap[g]? = some (.cells (wkCs x) 30 (0, 0)) ∧ Only (fun k => k = g) w4 wr
def nOf : Value → Nat
  | .int _ n => n.toNat
  | _ => 0
theorem newJ_ok15 {j : JobD} (hj : JobOk j) {id : Nat} (hid : id < 4294967296) : WkOk (newJ j id) := by
  have z0 : (0 : Nat) < 4294967296 := by decide
  have hsrc : ∀ i, j.src[i]! < 4294967296 := fun i => by
    by_cases h : i < j.src.length
    · rw [getElem!_pos j.src i h]; exact hj.src _ (List.getElem_mem h)
    · rw [getElem!_neg j.src i h]; decide
  unfold newJ
  split
  · exact ⟨hid, z0, hsrc _, z0, z0, z0, z0⟩
  · exact ⟨z0, z0, z0, z0, z0, z0, z0⟩

set_option maxRecDepth 100000 in
set_option maxHeartbeats 6400000 in
theorem ends_walk (j : JobD) (hj : JobOk j) (so : Option Addr) (sc : Nat) (id : Nat) (hid : id < 4294967296) (l : List EdgeD) (ao : Option Addr) (ca : Nat) (fp : Nat → Prop) (w : World)
    (hsrc : Rd w so j.src.length (u32s j.src)) (hrd : RdS edgeRep fp w ao l) :
    Calls Try.prog 6 #[.agg (jobCs j so sc), .int .u32 (id : Nat), .slice ao l.length ca] w (RetB (.bool true) w) := by
  have HA := Lib.hid awake21_any
  obtain ⟨W1, hW1⟩ : ∃ W1, W1 = w.alloc (.cells (jobCs j so sc) 28) := ⟨_, rfl⟩
  have hz1 : w.heap.size < W1.heap.size := by rw [hW1]; simp
  have B1 := Lib.hid (show Below w.heap.size w W1 by rw [hW1]; exact ext_alloc w _)
  have R1 := Lib.hid (show W1.heap[w.heap.size]? = some (.cells (jobCs j so sc) 28 (0, 0)) by rw [hW1]; exact heap_alloc_new w _)
  have HIj := Lib.hid (jb_info j so sc)
  have q4 : W1.cell? ⟨w.heap.size, 4, none⟩ = some (.slice so j.src.length sc) := cell_of_row W1 _ 4 _ _ (0, 0) R1.out
  have q2 : W1.cell? ⟨w.heap.size, 2, none⟩ = some (.int .u32 (j.length : Nat)) := cell_of_row W1 _ 2 _ _ (0, 0) R1.out
  have q9 : W1.cell? ⟨w.heap.size, 9, none⟩ = some (.int .u32 (j.tries : Nat)) := cell_of_row W1 _ 9 _ _ (0, 0) R1.out
  by_cases h1 : 50 < l.length
  · have d1 : decide (50 < l.length) = true := decide_eq_true h1
    have d1' : decide ((50 : Int) < (l.length : Int)) = true := decide_eq_true (by omega)
    clear hsrc hrd h1
    go_enter Try.func6, Try.ntmps6
    go_upto_region 1 with fail
    rw [← hW1]
    clear hW1
    go_wp2_with (go_at_call 13; (with_reducible refine (HA.out _).mono ?_); rintro e w9 ⟨rfl, hB⟩; have B9 := Lib.hid (B1.out.trans (hB.mono B1.out.size)); clear hB)
    go_ret
    exact ⟨rfl, B9.out⟩
  have d1 : decide (50 < l.length) = false := decide_eq_false h1
  have d1' : decide ((50 : Int) < (l.length : Int)) = false := decide_eq_false (by omega)
  by_cases h2 : 300 < j.src.length
  · have d2 : decide (300 < j.src.length) = true := decide_eq_true h2
    have d2' : decide ((300 : Int) < (j.src.length : Int)) = true := decide_eq_true (by omega)
    clear hsrc hrd h1 h2
    go_enter Try.func6, Try.ntmps6
    go_upto_region 1 with fail
    rw [← hW1]
    clear hW1
    go_wp2_with (go_at_call 13; (with_reducible refine (HA.out _).mono ?_); rintro e w9 ⟨rfl, hB⟩; have B9 := Lib.hid (B1.out.trans (hB.mono B1.out.size)); clear hB)
    go_ret
    exact ⟨rfl, B9.out⟩
  have d2 : decide (300 < j.src.length) = false := decide_eq_false h2
  have d2' : decide ((300 : Int) < (j.src.length : Int)) = false := decide_eq_false (by omega)
  by_cases h3 : 8 < j.length
  · have d3 : decide (8 < j.length) = true := decide_eq_true h3
    have d3' : decide ((8 : Int) < (j.length : Int)) = true := decide_eq_true (by omega)
    clear hsrc hrd h1 h2 h3
    go_enter Try.func6, Try.ntmps6
    go_upto_region 1 with fail
    rw [← hW1]
    clear hW1
    go_wp2_with (go_at_call 13; (with_reducible refine (HA.out _).mono ?_); rintro e w9 ⟨rfl, hB⟩; have B9 := Lib.hid (B1.out.trans (hB.mono B1.out.size)); clear hB)
    go_ret
    exact ⟨rfl, B9.out⟩
  have d3 : decide (8 < j.length) = false := decide_eq_false h3
  have d3' : decide ((8 : Int) < (j.length : Int)) = false := decide_eq_false (by omega)
  by_cases h4 : 8 < j.tries
  · have d4 : decide (8 < j.tries) = true := decide_eq_true h4
    have d4' : decide ((8 : Int) < (j.tries : Int)) = true := decide_eq_true (by omega)
    clear hsrc hrd h1 h2 h3 h4
    go_enter Try.func6, Try.ntmps6
    go_upto_region 1 with fail
    rw [← hW1]
    clear hW1
    go_wp2_with (go_at_call 13; (with_reducible refine (HA.out _).mono ?_); rintro e w9 ⟨rfl, hB⟩; have B9 := Lib.hid (B1.out.trans (hB.mono B1.out.size)); clear hB)
    go_ret
    exact ⟨rfl, B9.out⟩
  have d4 : decide (8 < j.tries) = false := decide_eq_false h4
  have d4' : decide ((8 : Int) < (j.tries : Int)) = false := decide_eq_false (by omega)
  have htl := tl_le (show j.tries ≤ 8 by omega) (show j.length ≤ 8 by omega)
  obtain ⟨y, hy⟩ : ∃ y, newJ j id = y := ⟨_, rfl⟩
  have hyk : WkOk y := hy ▸ newJ_ok15 hj hid
  have HOf := Lib.hid (fun W (h : Below w.heap.size w W) => rof15_any l ao ca fp W (by omega) (hrd.ext h))
  have HNw := Lib.hid (fun W (h : Below w.heap.size w W) => (show Calls Try.prog 20 #[.agg (jobCs j so sc), .int .u32 (id : Nat)] W (RetB (.tuple #[.agg #[.int .u32 (y.id : Nat), .int .u32 (y.step : Nat), .int .u32 (y.at_ : Nat), .int .u32 (y.prev : Nat), .int .u32 (y.next : Nat), .int .u32 (y.try_ : Nat), .int .u32 (y.state : Nat)], .bool (srcH j id)]) W) from by
    have h8 := rnew_any j hj so sc id hid W (by omega) (hsrc.ext h)
    unfold newV at h8
    rw [hy] at h8
    exact h8))
  have HMv := Lib.hid (fun (x : WkD) (hx : WkOk x) (A : List ArcD) (aa : Option Addr) (cc : Nat) (fpR : Nat → Prop) (w7 : World) (hA : A.length ≤ 100) (hw : Below w.heap.size w w7) (hr : RdS arcRep fpR w7 aa A) => ends_move hj (so := so) (sc := sc) hx (ca := cc) hA (by omega) hsrc hw hr)
  have HMo := Lib.hid (fun W (h : Below w.heap.size w W) => most_any j hj so sc W (by omega) (by omega) (by omega) (hsrc.ext h))
  have HE0 := Lib.hid (fun (h : srcH j id = true) => (show EndI j 0 y ∧ mostM j = 2 * (j.tries * j.length) + 1 from hy ▸ endI_new h))
  have hlen := (ofM_len l).2
  have hal := arcs15M_len l
  obtain ⟨R, er⟩ : ∃ R, ofM l = R := ⟨_, rfl⟩
  rw [er] at HOf hlen hal
  clear er
  obtain ⟨R, er⟩ := R
  simp only at hlen hal
  have hR50 : R.length ≤ 50 := by omega
  have Hal := Lib.hid (fun a => show (arcs15M R a).length ≤ 100 from Nat.le_trans (hal a) (by omega))
  clear hsrc hrd h1 h2 h3 h4 hlen hal hy
  generalize jobCs j so sc = jc at *
  go_enter Try.func6, Try.ntmps6
  go_upto_region 1 with fail
  rw [← hW1]
  clear hW1
  go_upto_region 5 with (first
    | (go_at_call 19; (with_reducible refine (HOf.out _ B1.out).mono ?_); rintro e w3 ⟨ra, rc, rfl, _, _, hrr, hB⟩; have RR := Lib.hid hrr; have B3 := Lib.hid (B1.out.trans (hB.mono B1.out.size)); have R3 := Lib.hid ((hB.block _ (Array.getElem?_eq_some_iff.1 R1.out).1).trans R1.out); clear hB hrr)
    | (refine wpList_load_row rfl _ _ rfl w.heap.size rfl 28 jc (0, 0) _ R3.out Try.underlying28 rfl HIj.out ?_)
    | (go_at_call 20; (with_reducible refine (HNw.out _ B3.out).mono ?_); rintro e w4 ⟨rfl, hB⟩; have RR4 := Lib.hid (RR.out.ext hB); have B4 := Lib.hid (B3.out.trans (hB.mono B3.out.size)); have R4 := Lib.hid ((hB.block _ (Array.getElem?_eq_some_iff.1 R3.out).1).trans R3.out); clear hB))
  obtain ⟨W5, hW5⟩ : ∃ W5, w4.alloc (.cells #[.int .u32 (y.id : Nat), .int .u32 (y.step : Nat), .int .u32 (y.at_ : Nat), .int .u32 (y.prev : Nat), .int .u32 (y.next : Nat), .int .u32 (y.try_ : Nat), .int .u32 (y.state : Nat)] 30) = W5 := ⟨_, rfl⟩
  rw [hW5]
  have hB45 : Below w4.heap.size w4 W5 := by rw [← hW5]; exact ext_alloc _ _
  have B5 := Lib.hid (B4.out.trans (hB45.mono B4.out.size))
  have HO5 := Lib.hid (show Only (fun k => k = w4.heap.size) w4 W5 from Only.of_below hB45)
  have HY := Lib.hid (show W5.heap[w4.heap.size]? = some (.cells (wkCs y) 30 (0, 0)) by rw [← hW5]; exact heap_alloc_new _ _)
  clear hW5 hB45 HOf HNw q2 q4 q9 d1 d1' d2 d2' d3 d3' d4 d4'
  generalize (Value.agg #[.int .u32 (y.id : Nat), .int .u32 (y.step : Nat), .int .u32 (y.at_ : Nat), .int .u32 (y.prev : Nat), .int .u32 (y.next : Nat), .int .u32 (y.try_ : Nat), .int .u32 (y.state : Nat)]) = z1
  by_cases he : er = 0
  · have e1 : ((er : Int) != 0) = false := by rw [he]; rfl
    have e1' : (er != 0) = false := by rw [he]; rfl
    cases hs : srcH j id with
    | false =>
      clear he hs
      go_wp2_with (go_at_call 13; (with_reducible refine (HA.out _).mono ?_); rintro e w9 ⟨rfl, hB⟩; have B9 := Lib.hid (B5.out.trans (hB.mono B5.out.size)); clear hB)
      go_ret
      exact ⟨rfl, B9.out⟩
    | true =>
      obtain ⟨hE0, hmo⟩ := HE0.out hs
      have Hmo := Lib.hid hmo
      clear he hs HE0 hmo
      go_wp2_with fail
      go_loopw [11] (fun v wr => endsI j w4.heap.size w4 v wr) (fun v _ => 201 - nOf v)
      case atStart => exact ⟨0, y, rfl, hE0, hyk, HY.out, HO5.out⟩
      case round =>
        obtain ⟨n, x, rfl, hE, hx, hrow, hO⟩ := hrel
        rename World => wo
        have hn := endI_le hE
        have t1 : decide ((n : Int) ≤ 200) = true := decide_eq_true (by omega)
        have t1' : decide (n ≤ 200) = true := decide_eq_true (by omega)
        obtain ⟨_, _, c2, c3, _, _, c6⟩ := wk_cells hrow
        have hs4 : w.heap.size < w4.heap.size := (Array.getElem?_eq_some_iff.1 R4.out).1
        have Bo := Lib.hid (B4.out.trans (hO.below B4.out.size (fun k hk e => by omega)))
        have RRo := Lib.hid (RR4.out.only hO (fun b _ hl => by omega))
        have Jo := Lib.hid ((hO.same w.heap.size hs4 (by omega)).trans R4.out)
        have Ho := Lib.hid hO
        have HEo := Lib.hid hE
        have Hx := Lib.hid hx
        have Hrow := Lib.hid hrow
        clear hE hx hrow hO hn
        go_upto_if 60 with (fail)
        go_cut [12] (fun v wx => (∃ a : Nat, v = .int .u32 (a : Nat)) ∧ wx = wo)
        case first =>
          by_cases hst : x.state = 1
          · have s1 : ((x.state : Int) == 1) = true := by rw [hst]; rfl
            have s1' : (x.state == 1) = true := by rw [hst]; rfl
            go_wp2_with fail
            go_meet
            exact ⟨⟨_, rfl⟩, rfl⟩
          · have s1 : ((x.state : Int) == 1) = false := beq_eq_false_iff_ne.2 (by omega)
            have s1' : (x.state == 1) = false := beq_eq_false_iff_ne.2 hst
            go_wp2_with fail
            go_meet
            exact ⟨⟨_, rfl⟩, rfl⟩
        case rest =>
          obtain ⟨⟨a, rfl⟩, hw⟩ := hcut
          obtain rfl : wo = wc := hw.symm
          clear hw c2 c3 c6
          have HAr := Lib.hid (fun (a : Nat) => arcs15_any R a ra rc _ wo (by omega) RRo.out)
          go_upto_region 13 with (first
            | (go_at_call 21; (with_reducible refine (HAr.out a).mono ?_); rintro e w7 ⟨aa, cc, rfl, _, _, hra, hB⟩; have RA := Lib.hid hra; have E7 := Lib.hid hB; clear hB hra)
            | fail "no arm")
          have hA100 := Hal.out a
          generalize arcs15M R a = A at hA100 RA ⊢
          have B7 := Lib.hid (Bo.out.trans (E7.out.mono Bo.out.size))
          have HMw := Lib.hid (HMv.out x Hx.out A aa cc _ w7 hA100 B7.out RA.out)
          have HBd := Lib.hid (fun W (h : Below w7.heap.size w7 W) => build_any A aa cc _ W (by omega) (RA.out.ext h))
          have HIw := Lib.hid (wk_info x)
          have HS7 := Lib.hid (show WMG w.heap.size w4.heap.size jc (wkCs x) w7 from WMG.keep ⟨Jo.out, Hrow.out⟩ E7.out)
          obtain ⟨wkc, hwkc⟩ : ∃ c, wkCs x = c := ⟨_, rfl⟩
          rw [hwkc] at HMw HIw HS7
          clear hwkc HAr
          go_cut [14, 15] (fun v14 v15 wx => EndsCut j x A w.heap.size w4.heap.size jc wkc w7 v14 v15 wx)
          case first =>
            refine wp_region_held (S := WMG w.heap.size w4.heap.size jc wkc) (by kernel_rfl) ?_
            have hS0 := HS7.out.keep (ext_drew w7)
            have B8 := Lib.hid (ext_drew w7)
            change wpAnyH _ _ _ _ _ _ _ _ (World.drew _)
            generalize World.drew w7 = w8 at hS0 B8 ⊢
            refine wpAnyH_take (i := 0) (oi := ⟨some 67, _, _, _, _, _⟩) (v := .agg jc) rfl (by kernel_rfl) (by kernel_rfl) (by kernel_rfl) (fun _ _ _ h => h) (yieldsIf_row21 rfl _ _ rfl w.heap.size rfl 28 jc (0, 0) _ (fun _ h => h.1) Try.underlying28 rfl HIj.out) hS0 ?_
            simp only [Act.put, List.setIfInBounds_toArray, List.set_cons_zero, List.set_cons_succ]
            refine wpAnyH_take (i := 1) (oi := ⟨some 68, _, _, _, _, _⟩) (v := .agg wkc) rfl (by kernel_rfl) (by kernel_rfl) (by kernel_rfl) (fun _ _ _ h => h) (yieldsIf_row21 rfl _ _ rfl w4.heap.size rfl 30 wkc (0, 0) _ (fun _ h => h.2) Try.underlying30 rfl HIw.out) hS0 ?_
            simp only [Act.put, List.setIfInBounds_toArray, List.set_cons_zero, List.set_cons_succ]
            refine wpAnyH_take (i := 2) (oi := ⟨some 69, _, _, _, _, _⟩) (v := ?_) rfl (by kernel_rfl) (by kernel_rfl) (by kernel_rfl) (fun _ _ _ h => h) (Or.inl ⟨by rfl, ?_⟩) hS0 ?_
            rotate_left
            · (intro w' hSw; clear hSw; go_simp; try (with_reducible rfl))
            simp only [Act.put, List.setIfInBounds_toArray, List.set_cons_zero, List.set_cons_succ]
            refine wpAnyH_take (i := 3) (oi := ⟨some 70, _, _, _, _, _⟩) (v := ?_) rfl (by kernel_rfl) (by kernel_rfl) (by kernel_rfl) (fun _ _ _ h => h) (Or.inl ⟨by rfl, ?_⟩) hS0 ?_
            rotate_left
            · (intro w' hSw; clear hSw; go_simp; try (with_reducible rfl))
            simp only [Act.put, List.setIfInBounds_toArray, List.set_cons_zero, List.set_cons_succ]
            refine wpAnyH_all (rs := [4, 9]) (by kernel_rfl) (by simp) ?_
            intro i hi
            simp only [List.mem_cons, List.not_mem_nil, or_false] at hi
            rcases hi with rfl | rfl
            · refine wpOp_runW (o := ⟨some 71, _, _, _, _, _⟩) rfl rfl fun K' hK => ?_
              go_simp
              refine (HBd.out _ B8.out).mono ?_
              rintro e w10 ⟨T, bo, cb, rfl, hT, _, _, _, hRT, hB⟩
              have hS1 := hS0.keep hB
              have B10 := Lib.hid (B8.out.trans (hB.mono B8.out.size))
              have E10 := Lib.hid hB
              clear hB hS0
              have hS0 := hS1
              clear hS1
              refine hK _ _ ⟨hS0, ?_⟩
              clear hK K'
              try simp only [Act.put, List.setIfInBounds_toArray, List.set_cons_zero, List.set_cons_succ]
              refine wpAnyH_all (rs := [5, 9]) (by kernel_rfl) (by simp) ?_
              intro i hi
              simp only [List.mem_cons, List.not_mem_nil, or_false] at hi
              rcases hi with rfl | rfl
              · refine wpOp_runW (o := ⟨some 72, _, _, _, _, _⟩) rfl rfl fun K' hK => ?_
                go_simp
                refine (HMw.out _ B10.out T bo cb _ hT hRT).mono ?_
                rintro e w11 ⟨r, yc, HY, hr, rfl, hB⟩
                have Hr := Lib.hid hr
                clear hr
                have hS1 := hS0.keep hB
                have B11 := Lib.hid (B10.out.trans (hB.mono B10.out.size))
                have E11 := Lib.hid hB
                clear hB hS0
                have hS0 := hS1
                clear hS1
                refine hK _ _ ⟨hS0, ?_⟩
                clear hK K'
                try simp only [Act.put, List.setIfInBounds_toArray, List.set_cons_zero, List.set_cons_succ]
                refine wpAnyH_take (i := 6) (oi := ⟨some 66, _, _, _, _, _⟩) (v := ?_) rfl (by kernel_rfl) (by kernel_rfl) (by kernel_rfl) (fun _ _ _ h => h) (Or.inl ⟨by rfl, ?_⟩) hS0 ?_
                rotate_left
                · (intro w' hSw; clear hSw; go_simp; try (with_reducible rfl))
                simp only [Act.put, List.setIfInBounds_toArray, List.set_cons_zero, List.set_cons_succ]
                refine wpAnyH_take (i := 7) (oi := ⟨some 73, _, _, _, _, _⟩) (v := ?_) rfl (by kernel_rfl) (by kernel_rfl) (by kernel_rfl) (fun _ _ _ h => h) (Or.inl ⟨by rfl, ?_⟩) hS0 ?_
                rotate_left
                · (intro w' hSw; clear hSw; go_simp; try (with_reducible rfl))
                simp only [Act.put, List.setIfInBounds_toArray, List.set_cons_zero, List.set_cons_succ]
                refine wpAnyH_take (i := 8) (oi := ⟨some 74, _, _, _, _, _⟩) (v := ?_) rfl (by kernel_rfl) (by kernel_rfl) (by kernel_rfl) (fun _ _ _ h => h) (Or.inl ⟨by rfl, ?_⟩) hS0 ?_
                rotate_left
                · (intro w' hSw; clear hSw; go_simp; try (with_reducible rfl))
                simp only [Act.put, List.setIfInBounds_toArray, List.set_cons_zero, List.set_cons_succ]
                refine wpAnyH_all (rs := [9]) (by kernel_rfl) (by simp) ?_
                intro i hi
                rw [List.mem_singleton] at hi
                subst hi
                refine wpOp_runW (o := ⟨some 14, _, _, _, _, _⟩) rfl rfl fun K' hK => ?_
                go_simp
                obtain ⟨w12, hw12⟩ : ∃ w', w11.alloc (.cells #[.int .u32 0, .int .u32 0, .int .u32 0, .int .u32 0, .int .u32 0, .int .u32 0, .int .u32 0] 30) = w' := ⟨_, rfl⟩
                rw [hw12]
                have hB : Below w11.heap.size w11 w12 := by rw [← hw12]; exact ext_alloc _ _
                have G12 := Lib.hid (show w12.heap[w11.heap.size]? = some (.cells #[.int .u32 0, .int .u32 0, .int .u32 0, .int .u32 0, .int .u32 0, .int .u32 0, .int .u32 0] 30 (0, 0)) by rw [← hw12]; exact heap_alloc_new _ _)
                have Hg := Lib.hid (show w.heap.size < w11.heap.size ∧ w4.heap.size < w11.heap.size ∧ w7.heap.size ≤ w11.heap.size from ⟨(Array.getElem?_eq_some_iff.1 hS0.1).1, (Array.getElem?_eq_some_iff.1 hS0.2).1, B11.out.size⟩)
                clear hw12
                generalize w11.heap.size = g2 at G12 Hg ⊢
                have hS1 := hS0.keep hB
                have B12 := Lib.hid (B11.out.trans (hB.mono B11.out.size))
                have E12 := Lib.hid hB
                clear hB hS0
                have hS0 := hS1
                clear hS1
                refine hK _ _ ⟨hS0, ?_⟩
                clear hK K'
                try simp only [Act.put, List.setIfInBounds_toArray, List.set_cons_zero, List.set_cons_succ]
                refine wpAnyH_all (rs := [10]) (by kernel_rfl) (by simp) ?_
                intro i hi
                rw [List.mem_singleton] at hi
                subst hi
                refine wpOp_runW (o := ⟨none, _, _, _, _, _⟩) rfl rfl fun K' hK => ?_
                refine wp_store_row21 _ _ _ rfl (b := g2) rfl rfl G12.out (by rw [HY.out]; rfl) (by rw [HY.out]; exact wk_info _) (by rw [HY.out]; simp [wkCs, Value.oneCell']) ?_
                intro w13 hrow hO
                have Hrow := Lib.hid hrow
                have hg2 := Hg.out
                have hS1 := hS0.only hO hg2.1 hg2.2.1
                have B13 := Lib.hid (B12.out.trans (hO.below B12.out.size (fun k hk e => by omega)))
                clear hO hS0 hrow hg2
                have hS0 := hS1
                clear hS1
                refine hK _ _ ⟨hS0, ?_⟩
                clear hK K'
                try simp only [Act.put, List.setIfInBounds_toArray, List.set_cons_zero, List.set_cons_succ]
                refine wpAnyH_take (i := 11) (oi := ⟨some 15, _, _, _, _, _⟩) (v := ?_) rfl (by kernel_rfl) (by kernel_rfl) (by kernel_rfl) (fun _ _ _ h => h) (Or.inl ⟨by rfl, ?_⟩) hS0 ?_
                rotate_left
                · (intro w' hSw; clear hSw; go_simp; try (with_reducible rfl))
                simp only [Act.put, List.setIfInBounds_toArray, List.set_cons_zero, List.set_cons_succ]
                refine wpAnyH_done (by kernel_rfl) ?_ _
                go_wp2_with fail
                go_meet
                exact ⟨r, g2, rfl, rfl, Hr.out, by rw [← HY.out]; exact Hrow.out, hS0, B13.out⟩
              · refine wpOp_runW (o := ⟨some 14, _, _, _, _, _⟩) rfl rfl fun K' hK => ?_
                go_simp
                obtain ⟨w11, hw11⟩ : ∃ w', w10.alloc (.cells #[.int .u32 0, .int .u32 0, .int .u32 0, .int .u32 0, .int .u32 0, .int .u32 0, .int .u32 0] 30) = w' := ⟨_, rfl⟩
                rw [hw11]
                have hB : Below w10.heap.size w10 w11 := by rw [← hw11]; exact ext_alloc _ _
                have G11 := Lib.hid (show w11.heap[w10.heap.size]? = some (.cells #[.int .u32 0, .int .u32 0, .int .u32 0, .int .u32 0, .int .u32 0, .int .u32 0, .int .u32 0] 30 (0, 0)) by rw [← hw11]; exact heap_alloc_new _ _)
                have Hg := Lib.hid (show w.heap.size < w10.heap.size ∧ w4.heap.size < w10.heap.size ∧ w7.heap.size ≤ w10.heap.size from ⟨(Array.getElem?_eq_some_iff.1 hS0.1).1, (Array.getElem?_eq_some_iff.1 hS0.2).1, B10.out.size⟩)
                clear hw11
                generalize w10.heap.size = g2 at G11 Hg ⊢
                have hS1 := hS0.keep hB
                have B11 := Lib.hid (B10.out.trans (hB.mono B10.out.size))
                have E11 := Lib.hid hB
                clear hB hS0
                have hS0 := hS1
                clear hS1
                refine hK _ _ ⟨hS0, ?_⟩
                clear hK K'
                try simp only [Act.put, List.setIfInBounds_toArray, List.set_cons_zero, List.set_cons_succ]
                refine wpAnyH_all (rs := [5]) (by kernel_rfl) (by simp) ?_
                intro i hi
                rw [List.mem_singleton] at hi
                subst hi
                refine wpOp_runW (o := ⟨some 72, _, _, _, _, _⟩) rfl rfl fun K' hK => ?_
                go_simp
                refine (HMw.out _ B11.out T bo cb _ hT (hRT.ext E11.out)).mono ?_
                rintro e w12 ⟨r, yc, HY, hr, rfl, hB⟩
                have Hr := Lib.hid hr
                clear hr
                have hS1 := hS0.keep hB
                have B12 := Lib.hid (B11.out.trans (hB.mono B11.out.size))
                have E12 := Lib.hid hB
                clear hB hS0
                have hS0 := hS1
                clear hS1
                refine hK _ _ ⟨hS0, ?_⟩
                clear hK K'
                try simp only [Act.put, List.setIfInBounds_toArray, List.set_cons_zero, List.set_cons_succ]
                have G12 := Lib.hid ((E12.out.block _ (Array.getElem?_eq_some_iff.1 G11.out).1).trans G11.out)
                refine wpAnyH_take (i := 6) (oi := ⟨some 66, _, _, _, _, _⟩) (v := ?_) rfl (by kernel_rfl) (by kernel_rfl) (by kernel_rfl) (fun _ _ _ h => h) (Or.inl ⟨by rfl, ?_⟩) hS0 ?_
                rotate_left
                · (intro w' hSw; clear hSw; go_simp; try (with_reducible rfl))
                simp only [Act.put, List.setIfInBounds_toArray, List.set_cons_zero, List.set_cons_succ]
                refine wpAnyH_take (i := 7) (oi := ⟨some 73, _, _, _, _, _⟩) (v := ?_) rfl (by kernel_rfl) (by kernel_rfl) (by kernel_rfl) (fun _ _ _ h => h) (Or.inl ⟨by rfl, ?_⟩) hS0 ?_
                rotate_left
                · (intro w' hSw; clear hSw; go_simp; try (with_reducible rfl))
                simp only [Act.put, List.setIfInBounds_toArray, List.set_cons_zero, List.set_cons_succ]
                refine wpAnyH_take (i := 8) (oi := ⟨some 74, _, _, _, _, _⟩) (v := ?_) rfl (by kernel_rfl) (by kernel_rfl) (by kernel_rfl) (fun _ _ _ h => h) (Or.inl ⟨by rfl, ?_⟩) hS0 ?_
                rotate_left
                · (intro w' hSw; clear hSw; go_simp; try (with_reducible rfl))
                simp only [Act.put, List.setIfInBounds_toArray, List.set_cons_zero, List.set_cons_succ]
                refine wpAnyH_all (rs := [10]) (by kernel_rfl) (by simp) ?_
                intro i hi
                rw [List.mem_singleton] at hi
                subst hi
                refine wpOp_runW (o := ⟨none, _, _, _, _, _⟩) rfl rfl fun K' hK => ?_
                refine wp_store_row21 _ _ _ rfl (b := g2) rfl rfl G12.out (by rw [HY.out]; rfl) (by rw [HY.out]; exact wk_info _) (by rw [HY.out]; simp [wkCs, Value.oneCell']) ?_
                intro w13 hrow hO
                have Hrow := Lib.hid hrow
                have hg2 := Hg.out
                have hS1 := hS0.only hO hg2.1 hg2.2.1
                have B13 := Lib.hid (B12.out.trans (hO.below B12.out.size (fun k hk e => by omega)))
                clear hO hS0 hrow hg2
                have hS0 := hS1
                clear hS1
                refine hK _ _ ⟨hS0, ?_⟩
                clear hK K'
                try simp only [Act.put, List.setIfInBounds_toArray, List.set_cons_zero, List.set_cons_succ]
                refine wpAnyH_take (i := 11) (oi := ⟨some 15, _, _, _, _, _⟩) (v := ?_) rfl (by kernel_rfl) (by kernel_rfl) (by kernel_rfl) (fun _ _ _ h => h) (Or.inl ⟨by rfl, ?_⟩) hS0 ?_
                rotate_left
                · (intro w' hSw; clear hSw; go_simp; try (with_reducible rfl))
                simp only [Act.put, List.setIfInBounds_toArray, List.set_cons_zero, List.set_cons_succ]
                refine wpAnyH_done (by kernel_rfl) ?_ _
                go_wp2_with fail
                go_meet
                exact ⟨r, g2, rfl, rfl, Hr.out, by rw [← HY.out]; exact Hrow.out, hS0, B13.out⟩
            · refine wpOp_runW (o := ⟨some 14, _, _, _, _, _⟩) rfl rfl fun K' hK => ?_
              go_simp
              obtain ⟨w10, hw10⟩ : ∃ w', w8.alloc (.cells #[.int .u32 0, .int .u32 0, .int .u32 0, .int .u32 0, .int .u32 0, .int .u32 0, .int .u32 0] 30) = w' := ⟨_, rfl⟩
              rw [hw10]
              have hB : Below w8.heap.size w8 w10 := by rw [← hw10]; exact ext_alloc _ _
              have G10 := Lib.hid (show w10.heap[w8.heap.size]? = some (.cells #[.int .u32 0, .int .u32 0, .int .u32 0, .int .u32 0, .int .u32 0, .int .u32 0, .int .u32 0] 30 (0, 0)) by rw [← hw10]; exact heap_alloc_new _ _)
              have Hg := Lib.hid (show w.heap.size < w8.heap.size ∧ w4.heap.size < w8.heap.size ∧ w7.heap.size ≤ w8.heap.size from ⟨(Array.getElem?_eq_some_iff.1 hS0.1).1, (Array.getElem?_eq_some_iff.1 hS0.2).1, B8.out.size⟩)
              clear hw10
              generalize w8.heap.size = g2 at G10 Hg ⊢
              have hS1 := hS0.keep hB
              have B10 := Lib.hid (B8.out.trans (hB.mono B8.out.size))
              have E10 := Lib.hid hB
              clear hB hS0
              have hS0 := hS1
              clear hS1
              refine hK _ _ ⟨hS0, ?_⟩
              clear hK K'
              try simp only [Act.put, List.setIfInBounds_toArray, List.set_cons_zero, List.set_cons_succ]
              refine wpAnyH_all (rs := [4]) (by kernel_rfl) (by simp) ?_
              intro i hi
              rw [List.mem_singleton] at hi
              subst hi
              refine wpOp_runW (o := ⟨some 71, _, _, _, _, _⟩) rfl rfl fun K' hK => ?_
              go_simp
              refine (HBd.out _ B10.out).mono ?_
              rintro e w11 ⟨T, bo, cb, rfl, hT, _, _, _, hRT, hB⟩
              have hS1 := hS0.keep hB
              have B11 := Lib.hid (B10.out.trans (hB.mono B10.out.size))
              have E11 := Lib.hid hB
              clear hB hS0
              have hS0 := hS1
              clear hS1
              refine hK _ _ ⟨hS0, ?_⟩
              clear hK K'
              try simp only [Act.put, List.setIfInBounds_toArray, List.set_cons_zero, List.set_cons_succ]
              have G11 := Lib.hid ((E11.out.block _ (Array.getElem?_eq_some_iff.1 G10.out).1).trans G10.out)
              refine wpAnyH_all (rs := [5]) (by kernel_rfl) (by simp) ?_
              intro i hi
              rw [List.mem_singleton] at hi
              subst hi
              refine wpOp_runW (o := ⟨some 72, _, _, _, _, _⟩) rfl rfl fun K' hK => ?_
              go_simp
              refine (HMw.out _ B11.out T bo cb _ hT hRT).mono ?_
              rintro e w12 ⟨r, yc, HY, hr, rfl, hB⟩
              have Hr := Lib.hid hr
              clear hr
              have hS1 := hS0.keep hB
              have B12 := Lib.hid (B11.out.trans (hB.mono B11.out.size))
              have E12 := Lib.hid hB
              clear hB hS0
              have hS0 := hS1
              clear hS1
              refine hK _ _ ⟨hS0, ?_⟩
              clear hK K'
              try simp only [Act.put, List.setIfInBounds_toArray, List.set_cons_zero, List.set_cons_succ]
              have G12 := Lib.hid ((E12.out.block _ (Array.getElem?_eq_some_iff.1 G11.out).1).trans G11.out)
              refine wpAnyH_take (i := 6) (oi := ⟨some 66, _, _, _, _, _⟩) (v := ?_) rfl (by kernel_rfl) (by kernel_rfl) (by kernel_rfl) (fun _ _ _ h => h) (Or.inl ⟨by rfl, ?_⟩) hS0 ?_
              rotate_left
              · (intro w' hSw; clear hSw; go_simp; try (with_reducible rfl))
              simp only [Act.put, List.setIfInBounds_toArray, List.set_cons_zero, List.set_cons_succ]
              refine wpAnyH_take (i := 7) (oi := ⟨some 73, _, _, _, _, _⟩) (v := ?_) rfl (by kernel_rfl) (by kernel_rfl) (by kernel_rfl) (fun _ _ _ h => h) (Or.inl ⟨by rfl, ?_⟩) hS0 ?_
              rotate_left
              · (intro w' hSw; clear hSw; go_simp; try (with_reducible rfl))
              simp only [Act.put, List.setIfInBounds_toArray, List.set_cons_zero, List.set_cons_succ]
              refine wpAnyH_take (i := 8) (oi := ⟨some 74, _, _, _, _, _⟩) (v := ?_) rfl (by kernel_rfl) (by kernel_rfl) (by kernel_rfl) (fun _ _ _ h => h) (Or.inl ⟨by rfl, ?_⟩) hS0 ?_
              rotate_left
              · (intro w' hSw; clear hSw; go_simp; try (with_reducible rfl))
              simp only [Act.put, List.setIfInBounds_toArray, List.set_cons_zero, List.set_cons_succ]
              refine wpAnyH_all (rs := [10]) (by kernel_rfl) (by simp) ?_
              intro i hi
              rw [List.mem_singleton] at hi
              subst hi
              refine wpOp_runW (o := ⟨none, _, _, _, _, _⟩) rfl rfl fun K' hK => ?_
              refine wp_store_row21 _ _ _ rfl (b := g2) rfl rfl G12.out (by rw [HY.out]; rfl) (by rw [HY.out]; exact wk_info _) (by rw [HY.out]; simp [wkCs, Value.oneCell']) ?_
              intro w13 hrow hO
              have Hrow := Lib.hid hrow
              have hg2 := Hg.out
              have hS1 := hS0.only hO hg2.1 hg2.2.1
              have B13 := Lib.hid (B12.out.trans (hO.below B12.out.size (fun k hk e => by omega)))
              clear hO hS0 hrow hg2
              have hS0 := hS1
              clear hS1
              refine hK _ _ ⟨hS0, ?_⟩
              clear hK K'
              try simp only [Act.put, List.setIfInBounds_toArray, List.set_cons_zero, List.set_cons_succ]
              refine wpAnyH_take (i := 11) (oi := ⟨some 15, _, _, _, _, _⟩) (v := ?_) rfl (by kernel_rfl) (by kernel_rfl) (by kernel_rfl) (fun _ _ _ h => h) (Or.inl ⟨by rfl, ?_⟩) hS0 ?_
              rotate_left
              · (intro w' hSw; clear hSw; go_simp; try (with_reducible rfl))
              simp only [Act.put, List.setIfInBounds_toArray, List.set_cons_zero, List.set_cons_succ]
              refine wpAnyH_done (by kernel_rfl) ?_ _
              go_wp2_with fail
              go_meet
              exact ⟨r, g2, rfl, rfl, Hr.out, by rw [← HY.out]; exact Hrow.out, hS0, B13.out⟩
          case rest =>
            obtain ⟨r, g2, rfl, rfl, ⟨t, ht⟩, hr2, hS, hB⟩ := hcut
            rename World => w8
            have S8 := Lib.hid hS
            have E8 := Lib.hid hB
            have B8 := Lib.hid (B7.out.trans (hB.mono B7.out.size))
            have G8 := Lib.hid hr2
            have Ht := Lib.hid ht
            have hn := endI_le HEo.out
            have hn2 : (n : Int) ≤ 128 := by omega
            have hmm : n + 1 ≤ mostM j := by rw [Hmo.out]; omega
            clear hS hB hr2 ht hn
            by_cases hz : r.2 = 0
            · have z1' : ((r.2 : Int) == 0) = true := by rw [hz]; rfl
              have z1'' : (r.2 == 0) = true := by rw [hz]; rfl
              have m1 : decide (n + 1 ≤ mostM j) = true := decide_eq_true hmm
              have m1' : decide ((n : Int) + 1 ≤ (mostM j : Int)) = true := decide_eq_true (by omega)
              clear hz hmm
              go_wp2_with (first
                | (refine wpList_load_row rfl _ _ rfl w.heap.size rfl 28 jc (0, 0) _ S8.out.1 Try.underlying28 rfl HIj.out ?_)
                | (go_at_call 22; (with_reducible refine (HMo.out _ B8.out).mono ?_); rintro e w9 ⟨rfl, hB⟩; have B9 := Lib.hid (B8.out.trans (hB.mono B8.out.size)); clear hB)
                | (go_at_call 13; (with_reducible refine (HA.out _).mono ?_); rintro e w10 ⟨rfl, hB⟩; have B10 := Lib.hid (B9.out.trans (hB.mono B9.out.size)); clear hB))
              go_ret
              exact ⟨rfl, B10.out⟩
            · have z1' : ((r.2 : Int) == 0) = false := beq_eq_false_iff_ne.2 (by omega)
              have z1'' : (r.2 == 0) = false := beq_eq_false_iff_ne.2 hz
              have Hz := Lib.hid hz
              clear hz hmm
              go_wp2_with (first
                | (refine wpList_load_row rfl _ _ rfl g2 rfl 30 (wkCs r.1) (0, 0) _ G8.out Try.underlying30 rfl (wk_info _) ?_)
                | (refine wpList_store_row rfl _ _ _ rfl rfl rfl S8.out.2 (Option.some.inj ((wk_info r.1).symm.trans HIw.out)) (wk_info _) (by simp [wkCs, Value.oneCell']) ?_; intro w10 hrow hO; have Hrow10 := Lib.hid hrow; have HO10 := Lib.hid hO; clear hrow hO))
              simp only [Act.put, List.setIfInBounds_toArray, List.set_cons_zero, List.set_cons_succ]
              go_roundw
              case rel => exact ⟨n + 1, r.1, by go_num, by rw [Ht.out]; exact endI_go HEo.out A t (by rw [← Ht.out]; exact Hz.out), by rw [Ht.out]; exact move_wkOk hj Hx.out RA.out.arcLt t, Hrow10.out, Ho.out.trans ((Only.of_below E7.out).trans ((Only.of_below E8.out).trans HO10.out (fun _ _ e => e)) (fun _ _ e => e)) (fun _ _ e => e)⟩
              case measure => simp [nOf]; omega
  · have e1 : ((er : Int) != 0) = true := bne_iff_ne.2 (by omega)
    have e1' : (er != 0) = true := bne_iff_ne.2 he
    clear he
    go_wp2_with (go_at_call 13; (with_reducible refine (HA.out _).mono ?_); rintro e w9 ⟨rfl, hB⟩; have B9 := Lib.hid (B5.out.trans (hB.mono B5.out.size)); clear hB)
    go_ret
    exact ⟨rfl, B9.out⟩
end Go.Proofs.Ytlgnpogmgpgdaaa
