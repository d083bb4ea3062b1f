/- graph.New, and the reference's. -/
import Derived.Test.YtlgnpogmgpgdaaaGraphOf
import Derived.Test.YtlgnpogmgpgdaaaBdGrR
import Derived.Test.YtlgnpogmgpgdaaaOwnSet
namespace Go.Proofs.Ytlgnpogmgpgdaaa
set_option linter.unusedSimpArgs false
set_option linter.unusedVariables false
set_option maxRecDepth 100000
open Go.RowKit

def nwI (R : List RowD) (w : World) (i : Value) (wr : World) : Prop := ∃ k : Nat, k ≤ R.length ∧ i = .int .i64 (k : Nat) ∧ (∀ j, j < k → newErr R j = 0) ∧ Below w.heap.size w wr
theorem newErr_arcs {R : List RowD} {k : Nat} (h : k < R.length) (e : R[k].2 = [] ∨ mayA R[k].2 = false) : newErr R k = 3 := by unfold newErr; rw [dif_pos h, if_pos e]
theorem newErr_low {R : List RowD} {k : Nat} (h : k < R.length) (h1 : ¬ (R[k].2 = [] ∨ mayA R[k].2 = false)) (h0 : 0 < k) (e : R[k].1 ≤ (R[k - 1]'(by omega)).1) : newErr R k = 13 := by unfold newErr; rw [dif_pos h, if_neg h1, dif_pos h0, if_pos e]
theorem newErr_fine {R : List RowD} {k : Nat} (h : k < R.length) (h1 : ¬ (R[k].2 = [] ∨ mayA R[k].2 = false)) (h2 : ∀ h0 : 0 < k, (R[k - 1]'(by omega)).1 < R[k].1) : newErr R k = 0 := by
  unfold newErr
  rw [dif_pos h, if_neg h1]
  split
  · rename_i h0; rw [if_neg (by have := h2 h0; omega)]
  · rfl
theorem new_next {R : List RowD} {k : Nat} (h : ∀ j, j < k → newErr R j = 0) (e : newErr R k = 0) : ∀ j, j < k + 1 → newErr R j = 0 := fun j hj => by
  by_cases hjk : j < k
  · exact h j hjk
  · obtain rfl : j = k := by omega
    exact e
set_option maxRecDepth 100000 in
set_option maxHeartbeats 6400000 in
theorem rnew15_any (R : List RowD) (ao : Option Addr) (cap : Nat) (fp : Nat → Prop) (w : World) (hl : R.length ≤ 100000) (ha : ∀ r ∈ R, r.2.length ≤ 100000) (hrd : RdS rowRep fp w ao R) :
    Calls Try.prog 40 #[.slice ao R.length cap] w (RetB (.int .i64 (newM15 R : Nat)) w) := by
  have Hrd := Lib.hid hrd
  clear hrd
  go_enter Try.func40, Try.ntmps40
  go_wp2_with fail
  go_loopw [6] (fun i wr => nwI R w i wr) (fun i _ => R.length - (intOf i).toNat)
  case atStart => exact ⟨0, by omega, rfl, fun j h => by omega, Below.refl _ _⟩
  case round =>
    obtain ⟨k, hk, rfl, hn, hB⟩ := hrel
    rename World => wo
    by_cases hlt : k < R.length
    · obtain ⟨bb, off, ra, rc, rfl, hbb, hc0', hc1', _, h2, h3, hr⟩ := Hrd.out.row k hlt
      have hc1 := ((bcell hB).1 _ _ hbb).trans hc1'
      have hir : (k : Int) < (R.length : Int) := by omega
      have hrl := ha R[k] (List.getElem_mem hlt)
      by_cases he : R[k].2 = []
      · have HV := Lib.hid (show newM15 R = 3 from by have e := newErr_arcs hlt (.inl he); rw [newM15_at hlt hn (by rw [e]; decide), e])
        rw [he, List.length_nil] at hc1
        have HB := Lib.hid hB
        clear hc0' hc1' hB hn hr h2 h3 he
        go_wp2_with fail
        go_ret
        exact ⟨by rw [HV.out]; rfl, HB.out⟩
      have hne : R[k].2.length ≠ 0 := fun e => he (List.eq_nil_of_length_eq_zero e)
      have z1 : (R[k].2.length == 0) = false := beq_eq_false_iff_ne.2 hne
      have z1' : ((R[k].2.length : Int) == 0) = false := beq_eq_false_iff_ne.2 (by omega)
      have HM := Lib.hid (rmay04_any R[k].2 ra rc fp wo (by omega) (hr.ext hB))
      cases hm : mayA R[k].2 with
      | false =>
        have HV := Lib.hid (show newM15 R = 3 from by have e := newErr_arcs hlt (.inr hm); rw [newM15_at hlt hn (by rw [e]; decide), e])
        rw [hm] at HM
        have HB := Lib.hid hB
        clear hc0' hc1' hB hn hr h2 h3 he hm
        generalize R[k].2.length = rn at *
        go_wp2_with (go_at_call 16; (with_reducible refine HM.out.mono ?_); rintro e w2 ⟨rfl, hx⟩; have B2 := Lib.hid (HB.out.trans (hx.mono HB.out.size)); clear hx)
        go_ret
        exact ⟨by rw [HV.out]; rfl, B2.out⟩
      | true =>
        rw [hm] at HM
        have h1n : ¬ (R[k].2 = [] ∨ mayA R[k].2 = false) := by rw [hm]; simp [he]
        have HB := Lib.hid hB
        have HN := Lib.hid hn
        by_cases h0 : 0 < k
        · obtain ⟨_, _, _, _, hab, _, hp0', _⟩ := Hrd.out.row (k - 1) (by omega)
          cases hab
          have g0 : decide ((k : Int) > 0) = true := decide_eq_true (by omega)
          have g0' : decide (0 < k) = true := decide_eq_true h0
          have hk1 : ((k : Int) - 1) = ((k - 1 : Nat) : Int) := by omega
          have hk1r : ((k - 1 : Nat) : Int) < (R.length : Int) := by omega
          have HF := Lib.hid (@newErr_fine R k hlt h1n)
          have HL := Lib.hid (@newErr_low R k hlt h1n h0)
          obtain ⟨x, hx⟩ : ∃ x, R[k].1 = x := ⟨_, rfl⟩
          obtain ⟨y, hy⟩ : ∃ y, (R[k - 1]'(by omega)).1 = y := ⟨_, rfl⟩
          rw [hx] at hc0'
          rw [hy] at hp0'
          have HXY := Lib.hid (And.intro hx hy)
          have HD := Lib.hid (And.intro hc0' hp0')
          clear hc0' hc1' hp0' hB hn hr h2 h3 he hm h1n hx hy
          generalize R[k].2.length = rn at *
          go_upto_region 6 with (go_at_call 16; (with_reducible refine HM.out.mono ?_); rintro e w2 ⟨rfl, hx⟩; have B2 := Lib.hid (HB.out.trans (hx.mono HB.out.size)); clear hx)
          have c0 := ((bcell B2.out).1 _ _ hbb).trans HD.out.1
          have c1 := ((bcell B2.out).1 _ _ hbb).trans HD.out.2
          by_cases hle : x ≤ y
          · have l1 : decide (x ≤ y) = true := decide_eq_true hle
            have l1' : decide ((x : Int) ≤ (y : Int)) = true := decide_eq_true (by omega)
            have HV := Lib.hid (show newM15 R = 13 from by have e := HL.out (by rw [HXY.out.1, HXY.out.2]; exact hle); rw [newM15_at hlt HN.out (by rw [e]; decide), e])
            clear hle
            go_quiet (fail)
            go_wp2_with fail
            go_ret
            exact ⟨by rw [HV.out]; rfl, below_drewN B2.out _⟩
          · have l1 : decide (x ≤ y) = false := decide_eq_false hle
            have l1' : decide ((x : Int) ≤ (y : Int)) = false := decide_eq_false (by omega)
            have HV := Lib.hid (new_next HN.out (HF.out (fun _ => by rw [HXY.out.1, HXY.out.2]; omega)))
            clear hle
            go_quiet (fail)
            go_wp2_with fail
            go_roundw
            case rel => exact ⟨k + 1, by omega, by go_num, HV.out, below_drewN B2.out _⟩
            case measure => simp [intOf]; omega
        · obtain rfl : k = 0 := by omega
          have HV := Lib.hid (new_next hn (newErr_fine hlt h1n (fun h => by omega)))
          have g0 : decide ((0 : Int) > 0) = false := by decide
          clear hc0' hc1' hB hn hr h2 h3 he hm h1n
          generalize R[0].2.length = rn at *
          go_upto_region 6 with (go_at_call 16; (with_reducible refine HM.out.mono ?_); rintro e w2 ⟨rfl, hx⟩; have B2 := Lib.hid (HB.out.trans (hx.mono HB.out.size)); clear hx)
          go_quiet (fail)
          go_wp2_with fail
          go_roundw
          case rel => exact ⟨0 + 1, by omega, by go_num, HV.out, below_drewN B2.out _⟩
          case measure => simp [intOf]; omega
    · obtain rfl : k = R.length := by omega
      have HV := Lib.hid (newM15_ok hn)
      have HB := Lib.hid hB
      clear hn hB
      go_wp2_with fail
      go_ret
      exact ⟨by rw [HV.out]; rfl, HB.out⟩
def newR (R : List RowD) : List RowD × Nat := if newM15 R = 0 then (R, 0) else ([], newM15 R)
def gnI (R : List RowD) (w : World) (g : Nat) (i : Value) (wr : World) : Prop :=
  ∃ (k : Nat) (ao : Option Addr) (cap : Nat) (gr : Option Nat) (fe : Nat → Prop), k ≤ R.length ∧ i = .int .i64 (k : Nat) ∧ (∀ j, j < k → newErr R j = 0) ∧ wr.heap[g]? = some (.cells #[.slice ao (R.take k).length cap] 119 (0, 0)) ∧
    OwnS rowRep fe wr ao cap gr 80 (R.take k) ∧ (∀ b, fe b → g < b ∧ b < wr.heap.size ∧ gr ≠ some b) ∧ (∀ b, gr = some b → g < b) ∧ Below w.heap.size w wr
set_option maxRecDepth 100000 in
set_option maxHeartbeats 12800000 in
theorem gnew_any (R : List RowD) (ao : Option Addr) (cap : Nat) (fp : Nat → Prop) (w : World) (hl : R.length ≤ 100000) (ha : ∀ r ∈ R, r.2.length ≤ 100000) (hrd : RdS rowRep fp w ao R) :
    Calls Try.prog 38 #[.slice ao R.length cap] w (GraphRet (newR R) w) := by
  have hE := rowElem
  have Hrd := Lib.hid hrd
  clear hrd
  obtain ⟨W1, hW1⟩ : ∃ W1, w.alloc (.cells #[.slice none 0 0] 119) = W1 := ⟨_, rfl⟩
  have HST : Hid (gnI R w w.heap.size (.int .i64 0) W1) := ⟨0, none, 0, none, fun _ => False, Nat.zero_le _, rfl, fun j h => by omega, by rw [← hW1]; exact heap_alloc_new _ _, OwnS.nil _ _ _ _, fun b h => h.elim, (fun b h => by cases h), by rw [← hW1]; exact ext_alloc _ _⟩
  obtain ⟨g, hg⟩ : ∃ g, w.heap.size = g := ⟨_, rfl⟩
  go_enter Try.func38, Try.ntmps38
  go_wp2_with fail
  rw [hg] at HST
  clear hW1
  go_loopw [11] (fun i wr => gnI R w g i wr) (fun i _ => R.length - (intOf i).toNat)
  case atStart => exact HST.out
  case round =>
    obtain ⟨k, ao1, cap1, gr, fe, hk, rfl, hn, hgb, hO, hfe, hgr1, hB⟩ := hrel
    rename World => wo
    have hgl : g < wo.heap.size := (Array.getElem?_eq_some_iff.1 hgb).1
    by_cases hlt : k < R.length
    · obtain ⟨bb, off, ra, rc, rfl, hbb, hc0', hc1', hr0, h2, h3, hr⟩ := Hrd.out.row k hlt
      have hc0 := ((bcell hB).1 _ _ hbb).trans hc0'
      have hc1 := ((bcell hB).1 _ _ hbb).trans hc1'
      have hir : (k : Int) < (R.length : Int) := by omega
      have hrl := ha R[k] (List.getElem_mem hlt)
      have HM := Lib.hid (fun W (h : Below wo.heap.size wo W) => gmay_any R[k].2 ra rc fp W (by omega) ((hr.ext hB).ext h))
      have HOw := Lib.hid (fun W (h : Below wo.heap.size wo W) => gown_any R[k].1 R[k].2 ra rc fp W (by omega) ((hr.ext hB).ext h))
      have HB := Lib.hid hB
      obtain ⟨w2, hw2⟩ : ∃ w2, wo.alloc (.cells #[.int .u32 (R[k].1 : Nat), .slice ra R[k].2.length rc] 80) = w2 := ⟨_, rfl⟩
      have E2 := Lib.hid (show Below wo.heap.size wo w2 by rw [← hw2]; exact ext_alloc _ _)
      have z0 : w2.cell? ⟨wo.heap.size, 0, none⟩ = some (.int .u32 (R[k].1 : Nat)) := by rw [← hw2]; simp
      have z1 : w2.cell? ⟨wo.heap.size, 1, none⟩ = some (.slice ra R[k].2.length rc) := by rw [← hw2]; simp
      have HO := Lib.hid hO
      have Hgb := Lib.hid hgb
      have Hfe := Lib.hid (And.intro hfe hgr1)
      have hq2 : wo.heap.size < w2.heap.size := by rw [← hw2]; simp
      by_cases he : R[k].2 = []
      · have HV := Lib.hid (show newR R = ([], 3) from by have e := newErr_arcs hlt (.inl he); unfold newR; rw [newM15_at hlt hn (by rw [e]; decide), e]; rfl)
        rw [he, List.length_nil] at hc1 z1 hw2
        clear hc0' hc1' hB hn hr h2 h3 he HST hO hgb hfe hgr1 HM HOw
        go_wp2_with fail
        go_ret2
        rw [HV.out]
        exact ⟨none, rfl, fun _ => rfl, fun h => absurd h (by decide), rfl, HB.out.trans (E2.out.mono HB.out.size)⟩
      have hne : R[k].2.length ≠ 0 := fun e => he (List.eq_nil_of_length_eq_zero e)
      have y1 : (R[k].2.length == 0) = false := beq_eq_false_iff_ne.2 hne
      have y1' : ((R[k].2.length : Int) == 0) = false := beq_eq_false_iff_ne.2 (by omega)
      cases hm : mayA R[k].2 with
      | false =>
        have HV := Lib.hid (show newR R = ([], 3) from by have e := newErr_arcs hlt (.inr hm); unfold newR; rw [newM15_at hlt hn (by rw [e]; decide), e]; rfl)
        rw [hm] at HM
        clear hc0' hc1' hB hn hr h2 h3 he hm HST hO hgb hfe hgr1 HOw
        generalize R[k].2.length = rn at *
        go_wp2_with (go_at_call 43; (with_reducible refine (HM.out _ E2.out).mono ?_); rintro e w3 ⟨rfl, hx⟩; have B3 := Lib.hid (HB.out.trans ((E2.out.trans (hx.mono E2.out.size)).mono HB.out.size)); clear hx)
        go_ret2
        rw [HV.out]
        exact ⟨none, rfl, fun _ => rfl, fun h => absurd h (by decide), rfl, B3.out⟩
      | true =>
        rw [hm] at HM
        have h1n : ¬ (R[k].2 = [] ∨ mayA R[k].2 = false) := by rw [hm]; simp [he]
        have HN := Lib.hid hn
        have hkl : (R.take k).length = k := by simp; omega
        have hgr : gr ≠ some g := fun e => by have := hgr1 g e; omega
        have hgl2 : g < w2.heap.size := by omega
        have hqg : wo.heap.size ≠ g := by omega
        have Hst := Lib.hid (show R.take (k + 1) = R.take k ++ [(R[k].1, R[k].2)] from List.take_succ_eq_append_getElem hlt)
        have Hgb2 := Lib.hid (show w2.heap[g]? = some (.cells #[.slice ao1 k cap1] 119 (0, 0)) by have := (E2.out.block g hgl).trans hgb; rw [hkl] at this; exact this)
        have hO2 := hO.ext E2.out
        have Hgt := Lib.hid (fun b (e : gr = some b) => (show b < w2.heap.size by have := hO.lt b e; omega))
        have hgo := hO.lt
        obtain ⟨css, hown0, hall⟩ := hO2
        rw [hkl] at hown0
        have Hown := Lib.hid (show Own w2 ao1 cap1 gr 80 2 k css.flatten from hown0)
        have Hall := Lib.hid hall
        have HB2 := Lib.hid (HB.out.trans (E2.out.mono HB.out.size))
        have HGC := Lib.hid (fun W (h : Below w2.heap.size w2 W) => (show W.cell? ⟨g, 0, none⟩ = some (.slice ao1 k cap1) from ((bcell h).1 g 0 hgl2).trans (cell_of_row w2 g 0 _ _ (0, 0) Hgb2.out)))
        have HGF := Lib.hid (fun W (h : Below w2.heap.size w2 W) => (show W.frozen? ⟨g, 0, none⟩ = false from ((bcell h).2 g 0 hgl2).trans (frozen_of_row w2 g 0 _ _ Hgb2.out)))
        have HS := Lib.hid (fun W (h : Below w2.heap.size w2 W) => And.intro (((bcell h).1 _ 0 hq2).trans z0) (((bcell h).1 _ 1 hq2).trans z1))
        have HSO := Lib.hid (fun W W' (h : Below w2.heap.size w2 W) (ho : Only (fun j => gr = some j) W W') => (show W'.cell? ⟨wo.heap.size, 0, none⟩ = _ ∧ W'.cell? ⟨wo.heap.size, 1, none⟩ = _ from ⟨(ho.cell (Nat.lt_of_lt_of_le hq2 h.size) (fun e => by have := hgo _ e; omega) 0).trans (((bcell h).1 _ 0 hq2).trans z0), (ho.cell (Nat.lt_of_lt_of_le hq2 h.size) (fun e => by have := hgo _ e; omega) 1).trans (((bcell h).1 _ 1 hq2).trans z1)⟩))
        have HM := Lib.hid (fun W (h : Below w2.heap.size w2 W) => HM.out W (E2.out.trans (h.mono E2.out.size)))
        have HOw := Lib.hid (fun W (h : Below w2.heap.size w2 W) => HOw.out W (E2.out.trans (h.mono E2.out.size)))
        by_cases h0 : 0 < k
        · obtain ⟨_, _, _, _, hab, _, hp0', _⟩ := Hrd.out.row (k - 1) (by omega)
          cases hab
          have g0 : decide ((k : Int) > 0) = true := decide_eq_true (by omega)
          have g0' : decide (0 < k) = true := decide_eq_true h0
          have hk1 : ((k : Int) - 1) = ((k - 1 : Nat) : Int) := by omega
          have hk1r : ((k - 1 : Nat) : Int) < (R.length : Int) := by omega
          have HF := Lib.hid (fun (h : (R[k - 1]'(by omega)).1 < R[k].1) => newErr_fine hlt h1n (fun _ => h))
          have HL := Lib.hid (@newErr_low R k hlt h1n h0)
          have HFE : Hid (∀ j, (∀ i, i < j → newErr R i = 0) → j < R.length → newErr R j = 13 → newR R = ([], 13)) := fun j h1 h2 h3 => by unfold newR; rw [newM15_at h2 h1 (by rw [h3]; decide), h3]; rfl
          have p0 := ((bcell HB2.out).1 _ _ hbb).trans hp0'
          obtain ⟨r, hr'⟩ : ∃ r, R[k] = r := ⟨_, rfl⟩
          obtain ⟨y, hy⟩ : ∃ y, (R[k - 1]'(by omega)).1 = y := ⟨_, rfl⟩
          rw [hy] at p0 HF HL
          rw [hr'] at hc0 hc1 hr0 hrl HM HOw z0 z1 y1 y1' hne Hst HS HSO hw2 HF HL
          obtain ⟨r0, rl⟩ := r
          simp only at hc0 hc1 hr0 hrl HM HOw z0 z1 y1 y1' hne Hst HS HSO hw2 HF HL
          clear hc0' hc1' hp0' hB hn hr h2 h3 he hm h1n hr' hy hO hgb hfe hgr1 HO Hgb hown0 hall HST hgo
          go_upto_region 7 with (go_at_call 43; (with_reducible refine (HM.out _ (Below.refl _ _)).mono ?_); rintro e w3 ⟨rfl, hx⟩; have E3 := Lib.hid hx; clear hx)
          clear hw2
          have p1 := ((bcell E3.out).1 _ _ (Nat.lt_of_lt_of_le hbb HB2.out.size)).trans p0
          have q0 := ((bcell E3.out).1 _ 0 hq2).trans z0
          by_cases hle : r0 ≤ y
          · have l1 : decide (r0 ≤ y) = true := decide_eq_true hle
            have l1' : decide ((r0 : Int) ≤ (y : Int)) = true := decide_eq_true (by omega)
            have HV := Lib.hid (HFE.out k HN.out hlt (HL.out hle))
            clear hle
            go_quiet (fail)
            go_wp2_with fail
            go_ret2
            rw [HV.out]
            exact ⟨none, rfl, fun _ => rfl, fun h => absurd h (by decide), rfl, below_drewN (HB2.out.trans (E3.out.mono HB2.out.size)) _⟩
          · have l1 : decide (r0 ≤ y) = false := decide_eq_false hle
            have l1' : decide ((r0 : Int) ≤ (y : Int)) = false := decide_eq_false (by omega)
            have HV := Lib.hid (new_next HN.out (HF.out (Nat.lt_of_not_le hle)))
            clear hle
            go_quiet (fail)
            go_upto_region 9 with fail
            have E7 := Lib.hid (below_drewN E3.out nq)
            generalize w3.drewN nq = w7 at E7 ⊢
            clear p1 q0 p0 l1 l1' HF HL HFE g0 g0' hk1 hk1r hc0 hc1
            refine wp_region_held (S := fun w' => w'.cell? ⟨wo.heap.size, 0, none⟩ = some (.int .u32 (r0 : Nat)) ∧ w'.cell? ⟨wo.heap.size, 1, none⟩ = some (.slice ra rl.length rc)) (by kernel_rfl) ?_
            have E8 := Lib.hid (E7.out.trans ((ext_drew w7).mono E7.out.size))
            have hS0 := HS.out _ E8.out
            change wpAnyH _ _ _ _ _ _ _ _ (World.drew _)
            generalize World.drew w7 = w8 at hS0 E8 ⊢
            refine wpAnyH_take (i := 0) (oi := ⟨some 41, _, _, _, _, _⟩) (v := ?_) rfl (by kernel_rfl) (by kernel_rfl) (by kernel_rfl) (fun _ _ _ h => h) (Or.inl ⟨by rfl, ?_⟩) hS0 ?_
            rotate_left
            · (intro w' hSw; obtain ⟨s0, s1⟩ := hSw; go_simp; try (with_reducible rfl))
            simp only [Act.put, List.setIfInBounds_toArray, List.set_cons_zero, List.set_cons_succ]
            refine wpAnyH_take (i := 1) (oi := ⟨some 42, _, _, _, _, _⟩) (v := ?_) rfl (by kernel_rfl) (by kernel_rfl) (by kernel_rfl) (fun _ _ _ h => h) (Or.inl ⟨by rfl, ?_⟩) hS0 ?_
            rotate_left
            · (intro w' hSw; obtain ⟨s0, s1⟩ := hSw; go_simp; try (with_reducible rfl))
            simp only [Act.put, List.setIfInBounds_toArray, List.set_cons_zero, List.set_cons_succ]
            refine wpAnyH_take (i := 2) (oi := ⟨some 43, _, _, _, _, _⟩) (v := ?_) rfl (by kernel_rfl) (by kernel_rfl) (by kernel_rfl) (fun _ _ _ h => h) (Or.inl ⟨by rfl, ?_⟩) hS0 ?_
            rotate_left
            · (intro w' hSw; obtain ⟨s0, s1⟩ := hSw; go_simp; try (with_reducible rfl))
            simp only [Act.put, List.setIfInBounds_toArray, List.set_cons_zero, List.set_cons_succ]
            refine wpAnyH_take (i := 3) (oi := ⟨some 44, _, _, _, _, _⟩) (v := ?_) rfl (by kernel_rfl) (by kernel_rfl) (by kernel_rfl) (fun _ _ _ h => h) (Or.inl ⟨by rfl, ?_⟩) hS0 ?_
            rotate_left
            · (intro w' hSw; obtain ⟨s0, s1⟩ := hSw; go_simp; try (with_reducible rfl))
            simp only [Act.put, List.setIfInBounds_toArray, List.set_cons_zero, List.set_cons_succ]
            refine wpAnyH_take (i := 5) (oi := ⟨some 46, _, _, _, _, _⟩) (v := ?_) rfl (by kernel_rfl) (by kernel_rfl) (by kernel_rfl) (fun _ _ _ h => h) (Or.inl ⟨by rfl, ?_⟩) hS0 ?_
            rotate_left
            · (intro w' hSw; obtain ⟨s0, s1⟩ := hSw; go_simp; try (with_reducible rfl))
            simp only [Act.put, List.setIfInBounds_toArray, List.set_cons_zero, List.set_cons_succ]
            refine wpAnyH_all (rs := [4, 6]) (by kernel_rfl) (by simp) ?_
            intro i hi
            simp only [List.mem_cons, List.not_mem_nil, or_false] at hi
            rcases hi with rfl | rfl
            · refine wpOp_runG (o := ⟨some 45, _, _, _, _, _⟩) rfl rfl fun K' hK => ?_
              have hgc := HGC.out w8 E8.out
              go_simp
              clear hgc
              refine hK _ _ ⟨hS0, ?_⟩
              clear hK K'
              try simp only [Act.put, List.setIfInBounds_toArray, List.set_cons_zero, List.set_cons_succ]
              refine wpAnyH_all (rs := [6]) (by kernel_rfl) (by simp) ?_
              intro i hi
              rw [List.mem_singleton] at hi
              subst hi
              refine wpOp_runG (o := ⟨some 47, _, _, _, _, _⟩) rfl rfl fun K' hK => ?_
              go_simp
              refine (HOw.out w8 E8.out).mono ?_
              rintro e w10 ⟨a, c, gg, rfl, y1, y2, y3⟩
              have Y1 := Lib.hid y1
              have Y2 := Lib.hid (fun b hb => Nat.le_trans E8.out.size (y2 b hb))
              have E10 := Lib.hid (E8.out.trans (y3.mono E8.out.size))
              clear y1 y2 y3 hS0
              have hS0 := HS.out w10 E10.out
              refine hK _ _ ⟨hS0, ?_⟩
              clear hK K'
              try simp only [Act.put, List.setIfInBounds_toArray, List.set_cons_zero, List.set_cons_succ]
              refine wpAnyH_all (rs := [7]) (by kernel_rfl) (by simp) ?_
              intro i hi
              rw [List.mem_singleton] at hi
              subst hi
              refine wpOp_runG (o := ⟨some 48, _, _, _, _, _⟩) rfl rfl fun K' hK => ?_
              go_simp
              obtain ⟨w11, hw11⟩ : ∃ w', w10.alloc (.cells #[.int .u32 (r0 : Nat), .slice a rl.length c] 80) = w' := ⟨_, rfl⟩
              have HSr := Lib.hid (show Src Try.prog 2 47 (.slice (some ⟨w10.heap.size, 0, none⟩) 1 1) 1 [.int .u32 (r0 : Nat), .slice a rl.length c] w11 by rw [← hw11]; exact srcMany Try.underlying47 w10 [.int .u32 (r0 : Nat), .slice a rl.length c] 80 1 2 rfl (by simp [Value.oneCell']))
              have EA : Below w10.heap.size w10 w11 := by rw [← hw11]; exact ext_alloc _ _
              rw [hw11]
              have Y1 := Lib.hid (Y1.out.ext EA)
              have E11 := Lib.hid (E10.out.trans (EA.mono E10.out.size))
              clear hw11 hS0 EA
              have hS0 := HS.out w11 E11.out
              refine hK _ _ ⟨hS0, ?_⟩
              clear hK K'
              try simp only [Act.put, List.setIfInBounds_toArray, List.set_cons_zero, List.set_cons_succ]
              refine wpAnyH_all (rs := [8]) (by kernel_rfl) (by simp) ?_
              intro i hi
              rw [List.mem_singleton] at hi
              subst hi
              refine wpOp_runG (o := ⟨some 49, _, _, _, _, _⟩) rfl rfl fun K' hK => ?_
              refine wp_app (.tmp 45) (.tmp 48) 47 47 rfl hE (Hown.out.ext E11.out) rfl rfl HSr.out (by simp [maxLen]; omega) (by omega) ?_
              intro ao3 cap3 g3 w9 ho3 hg3 hon3
              have Ho3 := Lib.hid ho3
              have Hg3 := Lib.hid hg3
              have Hon3 := Lib.hid hon3
              have hgl9 := Nat.lt_of_lt_of_le hgl2 E11.out.size
              have hgc := (hon3.cell hgl9 (fun e => hgr e) 0).trans (HGC.out w11 E11.out)
              have hgf := (hon3.frozen hgl9 (fun e => hgr e) 0).trans (HGF.out w11 E11.out)
              have hS1 := HSO.out w11 w9 E11.out hon3
              clear ho3 hg3 hon3 hS0
              have hS0 := hS1
              clear hS1
              refine hK _ _ ⟨hS0, ?_⟩
              clear hK K'
              try simp only [Act.put, List.setIfInBounds_toArray, List.set_cons_zero, List.set_cons_succ]
              refine wpAnyH_take (i := 9) (oi := ⟨some 50, _, _, _, _, _⟩) (v := ?_) rfl (by kernel_rfl) (by kernel_rfl) (by kernel_rfl) (fun _ _ _ h => h) (Or.inl ⟨by rfl, ?_⟩) hS0 ?_
              rotate_left
              · (intro w' hSw; obtain ⟨s0, s1⟩ := hSw; go_simp; try (with_reducible rfl))
              simp only [Act.put, List.setIfInBounds_toArray, List.set_cons_zero, List.set_cons_succ]
              refine wpAnyH_take (i := 10) (oi := ⟨some 51, _, _, _, _, _⟩) (v := ?_) rfl (by kernel_rfl) (by kernel_rfl) (by kernel_rfl) (fun _ _ _ h => h) (Or.inl ⟨by rfl, ?_⟩) hS0 ?_
              rotate_left
              · (intro w' hSw; obtain ⟨s0, s1⟩ := hSw; go_simp; try (with_reducible rfl))
              simp only [Act.put, List.setIfInBounds_toArray, List.set_cons_zero, List.set_cons_succ]
              refine wpAnyH_all (rs := [11]) (by kernel_rfl) (by simp) ?_
              intro i hi
              rw [List.mem_singleton] at hi
              subst hi
              refine wpOp_runG (o := ⟨none, _, _, _, _, _⟩) rfl rfl fun K' hK => ?_
              go_simp
              refine hK _ _ ⟨?_, ?_⟩
              · obtain ⟨s0, s1⟩ := hS0
                exact ⟨(World.cell?_setCell_other _ _ _ _ (by intro e; injection e with e1 _ _; exact hqg e1.symm)).trans s0, (World.cell?_setCell_other _ _ _ _ (by intro e; injection e with e1 _ _; exact hqg e1.symm)).trans s1⟩
              clear hK K'
              try simp only [Act.put, List.setIfInBounds_toArray, List.set_cons_zero, List.set_cons_succ]
              refine wpAnyH_done (by kernel_rfl) ?_ _
              have hg3' : ∀ b, g3 = some b → gr = some b ∨ w2.heap.size ≤ b := fun b h => by
                rcases Hg3.out with rfl | rfl
                · exact .inl h
                · cases h; exact .inr E11.out.size
              have hz9 := Nat.le_trans E11.out.size Hon3.out.size
              have hgh : w9.heap[g]? = some (.cells #[.slice ao1 k cap1] 119 (0, 0)) := (Hon3.out.same g hgl9 (fun e => hgr e)).trans ((E11.out.block g hgl2).trans Hgb2.out)
              have hgs := heap_setCells_in g 119 (0, 0) [.slice ao3 (k + 1) cap3] 0 w9 _ hgh
              have hrow : OwnS rowRep (fun b => fe b ∨ gg = some b) w9 ao3 cap3 g3 80 (R.take k ++ [(r0, rl)]) := by
                refine OwnS.snoc (w := w2) (forall2_imp (fun x cs h => rowRep.mono h (fun b hb _ => .inl hb)) Hall.out) (cs := [.int .u32 (r0 : Nat), .slice a rl.length c]) (rowRep_ok (p := (r0, rl)) Y1.out.capLe.1 Y1.out.capLe.2 hr0 ?_) (by rw [hkl]; exact Ho3.out) (fun b hb hl => ?_) hz9
                · refine (Y1.out.rd.only Hon3.out (fun b hb _ e => ?_)).mono (fun b hb _ => .inr (hb.elim (fun h => h.elim) id))
                  rcases hb with h | h
                  · exact h
                  · have h5 := Y2.out b h; have h6 := Hgt.out b e; omega
                · rcases hb with h | h
                  · exact (Hon3.out.same b (Nat.lt_of_lt_of_le hl E11.out.size) (Hfe.out.1 b h).2.2).trans (E11.out.block b hl)
                  · have h5 := Y2.out b h; omega
              have hgN : g3 ≠ some g := fun e => (hg3' g e).elim (fun h => hgr h) (fun h => by omega)
              have Hgs := Lib.hid hgs
              have Hrow := Lib.hid hrow
              have hY1l := Y1.out.lt
              clear hgs hrow hgc hgf
              go_wp2_with fail
              go_roundw
              case rel =>
                refine ⟨k + 1, ao3, cap3, g3, fun b => fe b ∨ gg = some b, by omega, by go_num, HV.out, ?_, ?_, fun b hb => ?_, fun b hb => ?_, ?_⟩
                · rw [Hst.out, List.length_append, hkl]; exact Hgs.out
                · rw [Hst.out]
                  refine Hrow.out.keep (fun b hb hl => Below.heap_setCell _ _ _ _ (fun e => ?_)) (by simp)
                  simp only at e
                  rcases hb with (h | h) | h
                  · have := (Hfe.out.1 b h).1; omega
                  · have h5 := Y2.out b h; omega
                  · exact hgN (by rw [h, e])
                · rcases hb with h | h
                  · refine ⟨(Hfe.out.1 b h).1, by have h5 := (Hfe.out.1 b h).2.1; simp; omega, fun e => (hg3' b e).elim (Hfe.out.1 b h).2.2 (fun h6 => by have h5 := (Hfe.out.1 b h).2.1; omega)⟩
                  · have h5 := Y2.out b h
                    have h6 := hY1l b h
                    have h7 := Hon3.out.size
                    refine ⟨by omega, by simp; omega, fun e => ?_⟩
                    rcases Hg3.out with h8 | h8 <;> rw [h8] at e
                    · have := Hgt.out b e; omega
                    · cases e; omega
                · exact (hg3' b hb).elim (Hfe.out.2 b) (fun h => by omega)
                · exact (HB2.out.trans ((E11.out.mono HB2.out.size).trans (Hon3.out.below (Nat.le_trans HB2.out.size E11.out.size) (fun j hj e => by have := Hfe.out.2 j e; omega)))).setCell (by show w.heap.size ≤ g; omega) _
              case measure => simp [intOf]; omega
            · refine wpOp_runG (o := ⟨some 47, _, _, _, _, _⟩) rfl rfl fun K' hK => ?_
              go_simp
              refine (HOw.out w8 E8.out).mono ?_
              rintro e w10 ⟨a, c, gg, rfl, y1, y2, y3⟩
              have Y1 := Lib.hid y1
              have Y2 := Lib.hid (fun b hb => Nat.le_trans E8.out.size (y2 b hb))
              have E10 := Lib.hid (E8.out.trans (y3.mono E8.out.size))
              clear y1 y2 y3 hS0
              have hS0 := HS.out w10 E10.out
              refine hK _ _ ⟨hS0, ?_⟩
              clear hK K'
              try simp only [Act.put, List.setIfInBounds_toArray, List.set_cons_zero, List.set_cons_succ]
              refine wpAnyH_all (rs := [4, 7]) (by kernel_rfl) (by simp) ?_
              intro i hi
              simp only [List.mem_cons, List.not_mem_nil, or_false] at hi
              rcases hi with rfl | rfl
              · refine wpOp_runG (o := ⟨some 45, _, _, _, _, _⟩) rfl rfl fun K' hK => ?_
                have hgc := HGC.out w10 E10.out
                go_simp
                clear hgc
                refine hK _ _ ⟨hS0, ?_⟩
                clear hK K'
                try simp only [Act.put, List.setIfInBounds_toArray, List.set_cons_zero, List.set_cons_succ]
                refine wpAnyH_all (rs := [7]) (by kernel_rfl) (by simp) ?_
                intro i hi
                rw [List.mem_singleton] at hi
                subst hi
                refine wpOp_runG (o := ⟨some 48, _, _, _, _, _⟩) rfl rfl fun K' hK => ?_
                go_simp
                obtain ⟨w11, hw11⟩ : ∃ w', w10.alloc (.cells #[.int .u32 (r0 : Nat), .slice a rl.length c] 80) = w' := ⟨_, rfl⟩
                have HSr := Lib.hid (show Src Try.prog 2 47 (.slice (some ⟨w10.heap.size, 0, none⟩) 1 1) 1 [.int .u32 (r0 : Nat), .slice a rl.length c] w11 by rw [← hw11]; exact srcMany Try.underlying47 w10 [.int .u32 (r0 : Nat), .slice a rl.length c] 80 1 2 rfl (by simp [Value.oneCell']))
                have EA : Below w10.heap.size w10 w11 := by rw [← hw11]; exact ext_alloc _ _
                rw [hw11]
                have Y1 := Lib.hid (Y1.out.ext EA)
                have E11 := Lib.hid (E10.out.trans (EA.mono E10.out.size))
                clear hw11 hS0 EA
                have hS0 := HS.out w11 E11.out
                refine hK _ _ ⟨hS0, ?_⟩
                clear hK K'
                try simp only [Act.put, List.setIfInBounds_toArray, List.set_cons_zero, List.set_cons_succ]
                refine wpAnyH_all (rs := [8]) (by kernel_rfl) (by simp) ?_
                intro i hi
                rw [List.mem_singleton] at hi
                subst hi
                refine wpOp_runG (o := ⟨some 49, _, _, _, _, _⟩) rfl rfl fun K' hK => ?_
                refine wp_app (.tmp 45) (.tmp 48) 47 47 rfl hE (Hown.out.ext E11.out) rfl rfl HSr.out (by simp [maxLen]; omega) (by omega) ?_
                intro ao3 cap3 g3 w9 ho3 hg3 hon3
                have Ho3 := Lib.hid ho3
                have Hg3 := Lib.hid hg3
                have Hon3 := Lib.hid hon3
                have hgl9 := Nat.lt_of_lt_of_le hgl2 E11.out.size
                have hgc := (hon3.cell hgl9 (fun e => hgr e) 0).trans (HGC.out w11 E11.out)
                have hgf := (hon3.frozen hgl9 (fun e => hgr e) 0).trans (HGF.out w11 E11.out)
                have hS1 := HSO.out w11 w9 E11.out hon3
                clear ho3 hg3 hon3 hS0
                have hS0 := hS1
                clear hS1
                refine hK _ _ ⟨hS0, ?_⟩
                clear hK K'
                try simp only [Act.put, List.setIfInBounds_toArray, List.set_cons_zero, List.set_cons_succ]
                refine wpAnyH_take (i := 9) (oi := ⟨some 50, _, _, _, _, _⟩) (v := ?_) rfl (by kernel_rfl) (by kernel_rfl) (by kernel_rfl) (fun _ _ _ h => h) (Or.inl ⟨by rfl, ?_⟩) hS0 ?_
                rotate_left
                · (intro w' hSw; obtain ⟨s0, s1⟩ := hSw; go_simp; try (with_reducible rfl))
                simp only [Act.put, List.setIfInBounds_toArray, List.set_cons_zero, List.set_cons_succ]
                refine wpAnyH_take (i := 10) (oi := ⟨some 51, _, _, _, _, _⟩) (v := ?_) rfl (by kernel_rfl) (by kernel_rfl) (by kernel_rfl) (fun _ _ _ h => h) (Or.inl ⟨by rfl, ?_⟩) hS0 ?_
                rotate_left
                · (intro w' hSw; obtain ⟨s0, s1⟩ := hSw; go_simp; try (with_reducible rfl))
                simp only [Act.put, List.setIfInBounds_toArray, List.set_cons_zero, List.set_cons_succ]
                refine wpAnyH_all (rs := [11]) (by kernel_rfl) (by simp) ?_
                intro i hi
                rw [List.mem_singleton] at hi
                subst hi
                refine wpOp_runG (o := ⟨none, _, _, _, _, _⟩) rfl rfl fun K' hK => ?_
                go_simp
                refine hK _ _ ⟨?_, ?_⟩
                · obtain ⟨s0, s1⟩ := hS0
                  exact ⟨(World.cell?_setCell_other _ _ _ _ (by intro e; injection e with e1 _ _; exact hqg e1.symm)).trans s0, (World.cell?_setCell_other _ _ _ _ (by intro e; injection e with e1 _ _; exact hqg e1.symm)).trans s1⟩
                clear hK K'
                try simp only [Act.put, List.setIfInBounds_toArray, List.set_cons_zero, List.set_cons_succ]
                refine wpAnyH_done (by kernel_rfl) ?_ _
                have hg3' : ∀ b, g3 = some b → gr = some b ∨ w2.heap.size ≤ b := fun b h => by
                  rcases Hg3.out with rfl | rfl
                  · exact .inl h
                  · cases h; exact .inr E11.out.size
                have hz9 := Nat.le_trans E11.out.size Hon3.out.size
                have hgh : w9.heap[g]? = some (.cells #[.slice ao1 k cap1] 119 (0, 0)) := (Hon3.out.same g hgl9 (fun e => hgr e)).trans ((E11.out.block g hgl2).trans Hgb2.out)
                have hgs := heap_setCells_in g 119 (0, 0) [.slice ao3 (k + 1) cap3] 0 w9 _ hgh
                have hrow : OwnS rowRep (fun b => fe b ∨ gg = some b) w9 ao3 cap3 g3 80 (R.take k ++ [(r0, rl)]) := by
                  refine OwnS.snoc (w := w2) (forall2_imp (fun x cs h => rowRep.mono h (fun b hb _ => .inl hb)) Hall.out) (cs := [.int .u32 (r0 : Nat), .slice a rl.length c]) (rowRep_ok (p := (r0, rl)) Y1.out.capLe.1 Y1.out.capLe.2 hr0 ?_) (by rw [hkl]; exact Ho3.out) (fun b hb hl => ?_) hz9
                  · refine (Y1.out.rd.only Hon3.out (fun b hb _ e => ?_)).mono (fun b hb _ => .inr (hb.elim (fun h => h.elim) id))
                    rcases hb with h | h
                    · exact h
                    · have h5 := Y2.out b h; have h6 := Hgt.out b e; omega
                  · rcases hb with h | h
                    · exact (Hon3.out.same b (Nat.lt_of_lt_of_le hl E11.out.size) (Hfe.out.1 b h).2.2).trans (E11.out.block b hl)
                    · have h5 := Y2.out b h; omega
                have hgN : g3 ≠ some g := fun e => (hg3' g e).elim (fun h => hgr h) (fun h => by omega)
                have Hgs := Lib.hid hgs
                have Hrow := Lib.hid hrow
                have hY1l := Y1.out.lt
                clear hgs hrow hgc hgf
                go_wp2_with fail
                go_roundw
                case rel =>
                  refine ⟨k + 1, ao3, cap3, g3, fun b => fe b ∨ gg = some b, by omega, by go_num, HV.out, ?_, ?_, fun b hb => ?_, fun b hb => ?_, ?_⟩
                  · rw [Hst.out, List.length_append, hkl]; exact Hgs.out
                  · rw [Hst.out]
                    refine Hrow.out.keep (fun b hb hl => Below.heap_setCell _ _ _ _ (fun e => ?_)) (by simp)
                    simp only at e
                    rcases hb with (h | h) | h
                    · have := (Hfe.out.1 b h).1; omega
                    · have h5 := Y2.out b h; omega
                    · exact hgN (by rw [h, e])
                  · rcases hb with h | h
                    · refine ⟨(Hfe.out.1 b h).1, by have h5 := (Hfe.out.1 b h).2.1; simp; omega, fun e => (hg3' b e).elim (Hfe.out.1 b h).2.2 (fun h6 => by have h5 := (Hfe.out.1 b h).2.1; omega)⟩
                    · have h5 := Y2.out b h
                      have h6 := hY1l b h
                      have h7 := Hon3.out.size
                      refine ⟨by omega, by simp; omega, fun e => ?_⟩
                      rcases Hg3.out with h8 | h8 <;> rw [h8] at e
                      · have := Hgt.out b e; omega
                      · cases e; omega
                  · exact (hg3' b hb).elim (Hfe.out.2 b) (fun h => by omega)
                  · exact (HB2.out.trans ((E11.out.mono HB2.out.size).trans (Hon3.out.below (Nat.le_trans HB2.out.size E11.out.size) (fun j hj e => by have := Hfe.out.2 j e; omega)))).setCell (by show w.heap.size ≤ g; omega) _
                case measure => simp [intOf]; omega
              · refine wpOp_runG (o := ⟨some 48, _, _, _, _, _⟩) rfl rfl fun K' hK => ?_
                go_simp
                obtain ⟨w11, hw11⟩ : ∃ w', w10.alloc (.cells #[.int .u32 (r0 : Nat), .slice a rl.length c] 80) = w' := ⟨_, rfl⟩
                have HSr := Lib.hid (show Src Try.prog 2 47 (.slice (some ⟨w10.heap.size, 0, none⟩) 1 1) 1 [.int .u32 (r0 : Nat), .slice a rl.length c] w11 by rw [← hw11]; exact srcMany Try.underlying47 w10 [.int .u32 (r0 : Nat), .slice a rl.length c] 80 1 2 rfl (by simp [Value.oneCell']))
                have EA : Below w10.heap.size w10 w11 := by rw [← hw11]; exact ext_alloc _ _
                rw [hw11]
                have Y1 := Lib.hid (Y1.out.ext EA)
                have E11 := Lib.hid (E10.out.trans (EA.mono E10.out.size))
                clear hw11 hS0 EA
                have hS0 := HS.out w11 E11.out
                refine hK _ _ ⟨hS0, ?_⟩
                clear hK K'
                try simp only [Act.put, List.setIfInBounds_toArray, List.set_cons_zero, List.set_cons_succ]
                refine wpAnyH_all (rs := [4]) (by kernel_rfl) (by simp) ?_
                intro i hi
                rw [List.mem_singleton] at hi
                subst hi
                refine wpOp_runG (o := ⟨some 45, _, _, _, _, _⟩) rfl rfl fun K' hK => ?_
                have hgc := HGC.out w11 E11.out
                go_simp
                clear hgc
                refine hK _ _ ⟨hS0, ?_⟩
                clear hK K'
                try simp only [Act.put, List.setIfInBounds_toArray, List.set_cons_zero, List.set_cons_succ]
                refine wpAnyH_all (rs := [8]) (by kernel_rfl) (by simp) ?_
                intro i hi
                rw [List.mem_singleton] at hi
                subst hi
                refine wpOp_runG (o := ⟨some 49, _, _, _, _, _⟩) rfl rfl fun K' hK => ?_
                refine wp_app (.tmp 45) (.tmp 48) 47 47 rfl hE (Hown.out.ext E11.out) rfl rfl HSr.out (by simp [maxLen]; omega) (by omega) ?_
                intro ao3 cap3 g3 w9 ho3 hg3 hon3
                have Ho3 := Lib.hid ho3
                have Hg3 := Lib.hid hg3
                have Hon3 := Lib.hid hon3
                have hgl9 := Nat.lt_of_lt_of_le hgl2 E11.out.size
                have hgc := (hon3.cell hgl9 (fun e => hgr e) 0).trans (HGC.out w11 E11.out)
                have hgf := (hon3.frozen hgl9 (fun e => hgr e) 0).trans (HGF.out w11 E11.out)
                have hS1 := HSO.out w11 w9 E11.out hon3
                clear ho3 hg3 hon3 hS0
                have hS0 := hS1
                clear hS1
                refine hK _ _ ⟨hS0, ?_⟩
                clear hK K'
                try simp only [Act.put, List.setIfInBounds_toArray, List.set_cons_zero, List.set_cons_succ]
                refine wpAnyH_take (i := 9) (oi := ⟨some 50, _, _, _, _, _⟩) (v := ?_) rfl (by kernel_rfl) (by kernel_rfl) (by kernel_rfl) (fun _ _ _ h => h) (Or.inl ⟨by rfl, ?_⟩) hS0 ?_
                rotate_left
                · (intro w' hSw; obtain ⟨s0, s1⟩ := hSw; go_simp; try (with_reducible rfl))
                simp only [Act.put, List.setIfInBounds_toArray, List.set_cons_zero, List.set_cons_succ]
                refine wpAnyH_take (i := 10) (oi := ⟨some 51, _, _, _, _, _⟩) (v := ?_) rfl (by kernel_rfl) (by kernel_rfl) (by kernel_rfl) (fun _ _ _ h => h) (Or.inl ⟨by rfl, ?_⟩) hS0 ?_
                rotate_left
                · (intro w' hSw; obtain ⟨s0, s1⟩ := hSw; go_simp; try (with_reducible rfl))
                simp only [Act.put, List.setIfInBounds_toArray, List.set_cons_zero, List.set_cons_succ]
                refine wpAnyH_all (rs := [11]) (by kernel_rfl) (by simp) ?_
                intro i hi
                rw [List.mem_singleton] at hi
                subst hi
                refine wpOp_runG (o := ⟨none, _, _, _, _, _⟩) rfl rfl fun K' hK => ?_
                go_simp
                refine hK _ _ ⟨?_, ?_⟩
                · obtain ⟨s0, s1⟩ := hS0
                  exact ⟨(World.cell?_setCell_other _ _ _ _ (by intro e; injection e with e1 _ _; exact hqg e1.symm)).trans s0, (World.cell?_setCell_other _ _ _ _ (by intro e; injection e with e1 _ _; exact hqg e1.symm)).trans s1⟩
                clear hK K'
                try simp only [Act.put, List.setIfInBounds_toArray, List.set_cons_zero, List.set_cons_succ]
                refine wpAnyH_done (by kernel_rfl) ?_ _
                have hg3' : ∀ b, g3 = some b → gr = some b ∨ w2.heap.size ≤ b := fun b h => by
                  rcases Hg3.out with rfl | rfl
                  · exact .inl h
                  · cases h; exact .inr E11.out.size
                have hz9 := Nat.le_trans E11.out.size Hon3.out.size
                have hgh : w9.heap[g]? = some (.cells #[.slice ao1 k cap1] 119 (0, 0)) := (Hon3.out.same g hgl9 (fun e => hgr e)).trans ((E11.out.block g hgl2).trans Hgb2.out)
                have hgs := heap_setCells_in g 119 (0, 0) [.slice ao3 (k + 1) cap3] 0 w9 _ hgh
                have hrow : OwnS rowRep (fun b => fe b ∨ gg = some b) w9 ao3 cap3 g3 80 (R.take k ++ [(r0, rl)]) := by
                  refine OwnS.snoc (w := w2) (forall2_imp (fun x cs h => rowRep.mono h (fun b hb _ => .inl hb)) Hall.out) (cs := [.int .u32 (r0 : Nat), .slice a rl.length c]) (rowRep_ok (p := (r0, rl)) Y1.out.capLe.1 Y1.out.capLe.2 hr0 ?_) (by rw [hkl]; exact Ho3.out) (fun b hb hl => ?_) hz9
                  · refine (Y1.out.rd.only Hon3.out (fun b hb _ e => ?_)).mono (fun b hb _ => .inr (hb.elim (fun h => h.elim) id))
                    rcases hb with h | h
                    · exact h
                    · have h5 := Y2.out b h; have h6 := Hgt.out b e; omega
                  · rcases hb with h | h
                    · exact (Hon3.out.same b (Nat.lt_of_lt_of_le hl E11.out.size) (Hfe.out.1 b h).2.2).trans (E11.out.block b hl)
                    · have h5 := Y2.out b h; omega
                have hgN : g3 ≠ some g := fun e => (hg3' g e).elim (fun h => hgr h) (fun h => by omega)
                have Hgs := Lib.hid hgs
                have Hrow := Lib.hid hrow
                have hY1l := Y1.out.lt
                clear hgs hrow hgc hgf
                go_wp2_with fail
                go_roundw
                case rel =>
                  refine ⟨k + 1, ao3, cap3, g3, fun b => fe b ∨ gg = some b, by omega, by go_num, HV.out, ?_, ?_, fun b hb => ?_, fun b hb => ?_, ?_⟩
                  · rw [Hst.out, List.length_append, hkl]; exact Hgs.out
                  · rw [Hst.out]
                    refine Hrow.out.keep (fun b hb hl => Below.heap_setCell _ _ _ _ (fun e => ?_)) (by simp)
                    simp only at e
                    rcases hb with (h | h) | h
                    · have := (Hfe.out.1 b h).1; omega
                    · have h5 := Y2.out b h; omega
                    · exact hgN (by rw [h, e])
                  · rcases hb with h | h
                    · refine ⟨(Hfe.out.1 b h).1, by have h5 := (Hfe.out.1 b h).2.1; simp; omega, fun e => (hg3' b e).elim (Hfe.out.1 b h).2.2 (fun h6 => by have h5 := (Hfe.out.1 b h).2.1; omega)⟩
                    · have h5 := Y2.out b h
                      have h6 := hY1l b h
                      have h7 := Hon3.out.size
                      refine ⟨by omega, by simp; omega, fun e => ?_⟩
                      rcases Hg3.out with h8 | h8 <;> rw [h8] at e
                      · have := Hgt.out b e; omega
                      · cases e; omega
                  · exact (hg3' b hb).elim (Hfe.out.2 b) (fun h => by omega)
                  · exact (HB2.out.trans ((E11.out.mono HB2.out.size).trans (Hon3.out.below (Nat.le_trans HB2.out.size E11.out.size) (fun j hj e => by have := Hfe.out.2 j e; omega)))).setCell (by show w.heap.size ≤ g; omega) _
                case measure => simp [intOf]; omega
        · have HV := Lib.hid (new_next hn (newErr_fine hlt h1n (fun h => absurd h h0)))
          have g0 : decide ((k : Int) > 0) = false := decide_eq_false (by omega)
          have g0' : decide (0 < k) = false := decide_eq_false h0
          obtain ⟨r, hr'⟩ : ∃ r, R[k] = r := ⟨_, rfl⟩
          rw [hr'] at hc0 hc1 hr0 hrl HM HOw z0 z1 y1 y1' hne Hst HS HSO hw2
          obtain ⟨r0, rl⟩ := r
          simp only at hc0 hc1 hr0 hrl HM HOw z0 z1 y1 y1' hne Hst HS HSO hw2
          clear hc0' hc1' hB hn hr h2 h3 he hm h1n hr' hO hgb hfe hgr1 HO Hgb hown0 hall HST hgo
          go_upto_region 7 with (go_at_call 43; (with_reducible refine (HM.out _ (Below.refl _ _)).mono ?_); rintro e w3 ⟨rfl, hx⟩; have E3 := Lib.hid hx; clear hx)
          clear hw2
          go_quiet (fail)
          go_upto_region 9 with fail
          have E7 := Lib.hid (below_drewN E3.out nq)
          generalize w3.drewN nq = w7 at E7 ⊢
          clear hc0 hc1 g0 g0'
          refine wp_region_held (S := fun w' => w'.cell? ⟨wo.heap.size, 0, none⟩ = some (.int .u32 (r0 : Nat)) ∧ w'.cell? ⟨wo.heap.size, 1, none⟩ = some (.slice ra rl.length rc)) (by kernel_rfl) ?_
          have E8 := Lib.hid (E7.out.trans ((ext_drew w7).mono E7.out.size))
          have hS0 := HS.out _ E8.out
          change wpAnyH _ _ _ _ _ _ _ _ (World.drew _)
          generalize World.drew w7 = w8 at hS0 E8 ⊢
          refine wpAnyH_take (i := 0) (oi := ⟨some 41, _, _, _, _, _⟩) (v := ?_) rfl (by kernel_rfl) (by kernel_rfl) (by kernel_rfl) (fun _ _ _ h => h) (Or.inl ⟨by rfl, ?_⟩) hS0 ?_
          rotate_left
          · (intro w' hSw; obtain ⟨s0, s1⟩ := hSw; go_simp; try (with_reducible rfl))
          simp only [Act.put, List.setIfInBounds_toArray, List.set_cons_zero, List.set_cons_succ]
          refine wpAnyH_take (i := 1) (oi := ⟨some 42, _, _, _, _, _⟩) (v := ?_) rfl (by kernel_rfl) (by kernel_rfl) (by kernel_rfl) (fun _ _ _ h => h) (Or.inl ⟨by rfl, ?_⟩) hS0 ?_
          rotate_left
          · (intro w' hSw; obtain ⟨s0, s1⟩ := hSw; go_simp; try (with_reducible rfl))
          simp only [Act.put, List.setIfInBounds_toArray, List.set_cons_zero, List.set_cons_succ]
          refine wpAnyH_take (i := 2) (oi := ⟨some 43, _, _, _, _, _⟩) (v := ?_) rfl (by kernel_rfl) (by kernel_rfl) (by kernel_rfl) (fun _ _ _ h => h) (Or.inl ⟨by rfl, ?_⟩) hS0 ?_
          rotate_left
          · (intro w' hSw; obtain ⟨s0, s1⟩ := hSw; go_simp; try (with_reducible rfl))
          simp only [Act.put, List.setIfInBounds_toArray, List.set_cons_zero, List.set_cons_succ]
          refine wpAnyH_take (i := 3) (oi := ⟨some 44, _, _, _, _, _⟩) (v := ?_) rfl (by kernel_rfl) (by kernel_rfl) (by kernel_rfl) (fun _ _ _ h => h) (Or.inl ⟨by rfl, ?_⟩) hS0 ?_
          rotate_left
          · (intro w' hSw; obtain ⟨s0, s1⟩ := hSw; go_simp; try (with_reducible rfl))
          simp only [Act.put, List.setIfInBounds_toArray, List.set_cons_zero, List.set_cons_succ]
          refine wpAnyH_take (i := 5) (oi := ⟨some 46, _, _, _, _, _⟩) (v := ?_) rfl (by kernel_rfl) (by kernel_rfl) (by kernel_rfl) (fun _ _ _ h => h) (Or.inl ⟨by rfl, ?_⟩) hS0 ?_
          rotate_left
          · (intro w' hSw; obtain ⟨s0, s1⟩ := hSw; go_simp; try (with_reducible rfl))
          simp only [Act.put, List.setIfInBounds_toArray, List.set_cons_zero, List.set_cons_succ]
          refine wpAnyH_all (rs := [4, 6]) (by kernel_rfl) (by simp) ?_
          intro i hi
          simp only [List.mem_cons, List.not_mem_nil, or_false] at hi
          rcases hi with rfl | rfl
          · refine wpOp_runG (o := ⟨some 45, _, _, _, _, _⟩) rfl rfl fun K' hK => ?_
            have hgc := HGC.out w8 E8.out
            go_simp
            clear hgc
            refine hK _ _ ⟨hS0, ?_⟩
            clear hK K'
            try simp only [Act.put, List.setIfInBounds_toArray, List.set_cons_zero, List.set_cons_succ]
            refine wpAnyH_all (rs := [6]) (by kernel_rfl) (by simp) ?_
            intro i hi
            rw [List.mem_singleton] at hi
            subst hi
            refine wpOp_runG (o := ⟨some 47, _, _, _, _, _⟩) rfl rfl fun K' hK => ?_
            go_simp
            refine (HOw.out w8 E8.out).mono ?_
            rintro e w10 ⟨a, c, gg, rfl, y1, y2, y3⟩
            have Y1 := Lib.hid y1
            have Y2 := Lib.hid (fun b hb => Nat.le_trans E8.out.size (y2 b hb))
            have E10 := Lib.hid (E8.out.trans (y3.mono E8.out.size))
            clear y1 y2 y3 hS0
            have hS0 := HS.out w10 E10.out
            refine hK _ _ ⟨hS0, ?_⟩
            clear hK K'
            try simp only [Act.put, List.setIfInBounds_toArray, List.set_cons_zero, List.set_cons_succ]
            refine wpAnyH_all (rs := [7]) (by kernel_rfl) (by simp) ?_
            intro i hi
            rw [List.mem_singleton] at hi
            subst hi
            refine wpOp_runG (o := ⟨some 48, _, _, _, _, _⟩) rfl rfl fun K' hK => ?_
            go_simp
            obtain ⟨w11, hw11⟩ : ∃ w', w10.alloc (.cells #[.int .u32 (r0 : Nat), .slice a rl.length c] 80) = w' := ⟨_, rfl⟩
            have HSr := Lib.hid (show Src Try.prog 2 47 (.slice (some ⟨w10.heap.size, 0, none⟩) 1 1) 1 [.int .u32 (r0 : Nat), .slice a rl.length c] w11 by rw [← hw11]; exact srcMany Try.underlying47 w10 [.int .u32 (r0 : Nat), .slice a rl.length c] 80 1 2 rfl (by simp [Value.oneCell']))
            have EA : Below w10.heap.size w10 w11 := by rw [← hw11]; exact ext_alloc _ _
            rw [hw11]
            have Y1 := Lib.hid (Y1.out.ext EA)
            have E11 := Lib.hid (E10.out.trans (EA.mono E10.out.size))
            clear hw11 hS0 EA
            have hS0 := HS.out w11 E11.out
            refine hK _ _ ⟨hS0, ?_⟩
            clear hK K'
            try simp only [Act.put, List.setIfInBounds_toArray, List.set_cons_zero, List.set_cons_succ]
            refine wpAnyH_all (rs := [8]) (by kernel_rfl) (by simp) ?_
            intro i hi
            rw [List.mem_singleton] at hi
            subst hi
            refine wpOp_runG (o := ⟨some 49, _, _, _, _, _⟩) rfl rfl fun K' hK => ?_
            refine wp_app (.tmp 45) (.tmp 48) 47 47 rfl hE (Hown.out.ext E11.out) rfl rfl HSr.out (by simp [maxLen]; omega) (by omega) ?_
            intro ao3 cap3 g3 w9 ho3 hg3 hon3
            have Ho3 := Lib.hid ho3
            have Hg3 := Lib.hid hg3
            have Hon3 := Lib.hid hon3
            have hgl9 := Nat.lt_of_lt_of_le hgl2 E11.out.size
            have hgc := (hon3.cell hgl9 (fun e => hgr e) 0).trans (HGC.out w11 E11.out)
            have hgf := (hon3.frozen hgl9 (fun e => hgr e) 0).trans (HGF.out w11 E11.out)
            have hS1 := HSO.out w11 w9 E11.out hon3
            clear ho3 hg3 hon3 hS0
            have hS0 := hS1
            clear hS1
            refine hK _ _ ⟨hS0, ?_⟩
            clear hK K'
            try simp only [Act.put, List.setIfInBounds_toArray, List.set_cons_zero, List.set_cons_succ]
            refine wpAnyH_take (i := 9) (oi := ⟨some 50, _, _, _, _, _⟩) (v := ?_) rfl (by kernel_rfl) (by kernel_rfl) (by kernel_rfl) (fun _ _ _ h => h) (Or.inl ⟨by rfl, ?_⟩) hS0 ?_
            rotate_left
            · (intro w' hSw; obtain ⟨s0, s1⟩ := hSw; go_simp; try (with_reducible rfl))
            simp only [Act.put, List.setIfInBounds_toArray, List.set_cons_zero, List.set_cons_succ]
            refine wpAnyH_take (i := 10) (oi := ⟨some 51, _, _, _, _, _⟩) (v := ?_) rfl (by kernel_rfl) (by kernel_rfl) (by kernel_rfl) (fun _ _ _ h => h) (Or.inl ⟨by rfl, ?_⟩) hS0 ?_
            rotate_left
            · (intro w' hSw; obtain ⟨s0, s1⟩ := hSw; go_simp; try (with_reducible rfl))
            simp only [Act.put, List.setIfInBounds_toArray, List.set_cons_zero, List.set_cons_succ]
            refine wpAnyH_all (rs := [11]) (by kernel_rfl) (by simp) ?_
            intro i hi
            rw [List.mem_singleton] at hi
            subst hi
            refine wpOp_runG (o := ⟨none, _, _, _, _, _⟩) rfl rfl fun K' hK => ?_
            go_simp
            refine hK _ _ ⟨?_, ?_⟩
            · obtain ⟨s0, s1⟩ := hS0
              exact ⟨(World.cell?_setCell_other _ _ _ _ (by intro e; injection e with e1 _ _; exact hqg e1.symm)).trans s0, (World.cell?_setCell_other _ _ _ _ (by intro e; injection e with e1 _ _; exact hqg e1.symm)).trans s1⟩
            clear hK K'
            try simp only [Act.put, List.setIfInBounds_toArray, List.set_cons_zero, List.set_cons_succ]
            refine wpAnyH_done (by kernel_rfl) ?_ _
            have hg3' : ∀ b, g3 = some b → gr = some b ∨ w2.heap.size ≤ b := fun b h => by
              rcases Hg3.out with rfl | rfl
              · exact .inl h
              · cases h; exact .inr E11.out.size
            have hz9 := Nat.le_trans E11.out.size Hon3.out.size
            have hgh : w9.heap[g]? = some (.cells #[.slice ao1 k cap1] 119 (0, 0)) := (Hon3.out.same g hgl9 (fun e => hgr e)).trans ((E11.out.block g hgl2).trans Hgb2.out)
            have hgs := heap_setCells_in g 119 (0, 0) [.slice ao3 (k + 1) cap3] 0 w9 _ hgh
            have hrow : OwnS rowRep (fun b => fe b ∨ gg = some b) w9 ao3 cap3 g3 80 (R.take k ++ [(r0, rl)]) := by
              refine OwnS.snoc (w := w2) (forall2_imp (fun x cs h => rowRep.mono h (fun b hb _ => .inl hb)) Hall.out) (cs := [.int .u32 (r0 : Nat), .slice a rl.length c]) (rowRep_ok (p := (r0, rl)) Y1.out.capLe.1 Y1.out.capLe.2 hr0 ?_) (by rw [hkl]; exact Ho3.out) (fun b hb hl => ?_) hz9
              · refine (Y1.out.rd.only Hon3.out (fun b hb _ e => ?_)).mono (fun b hb _ => .inr (hb.elim (fun h => h.elim) id))
                rcases hb with h | h
                · exact h
                · have h5 := Y2.out b h; have h6 := Hgt.out b e; omega
              · rcases hb with h | h
                · exact (Hon3.out.same b (Nat.lt_of_lt_of_le hl E11.out.size) (Hfe.out.1 b h).2.2).trans (E11.out.block b hl)
                · have h5 := Y2.out b h; omega
            have hgN : g3 ≠ some g := fun e => (hg3' g e).elim (fun h => hgr h) (fun h => by omega)
            have Hgs := Lib.hid hgs
            have Hrow := Lib.hid hrow
            have hY1l := Y1.out.lt
            clear hgs hrow hgc hgf
            go_wp2_with fail
            go_roundw
            case rel =>
              refine ⟨k + 1, ao3, cap3, g3, fun b => fe b ∨ gg = some b, by omega, by go_num, HV.out, ?_, ?_, fun b hb => ?_, fun b hb => ?_, ?_⟩
              · rw [Hst.out, List.length_append, hkl]; exact Hgs.out
              · rw [Hst.out]
                refine Hrow.out.keep (fun b hb hl => Below.heap_setCell _ _ _ _ (fun e => ?_)) (by simp)
                simp only at e
                rcases hb with (h | h) | h
                · have := (Hfe.out.1 b h).1; omega
                · have h5 := Y2.out b h; omega
                · exact hgN (by rw [h, e])
              · rcases hb with h | h
                · refine ⟨(Hfe.out.1 b h).1, by have h5 := (Hfe.out.1 b h).2.1; simp; omega, fun e => (hg3' b e).elim (Hfe.out.1 b h).2.2 (fun h6 => by have h5 := (Hfe.out.1 b h).2.1; omega)⟩
                · have h5 := Y2.out b h
                  have h6 := hY1l b h
                  have h7 := Hon3.out.size
                  refine ⟨by omega, by simp; omega, fun e => ?_⟩
                  rcases Hg3.out with h8 | h8 <;> rw [h8] at e
                  · have := Hgt.out b e; omega
                  · cases e; omega
              · exact (hg3' b hb).elim (Hfe.out.2 b) (fun h => by omega)
              · exact (HB2.out.trans ((E11.out.mono HB2.out.size).trans (Hon3.out.below (Nat.le_trans HB2.out.size E11.out.size) (fun j hj e => by have := Hfe.out.2 j e; omega)))).setCell (by show w.heap.size ≤ g; omega) _
            case measure => simp [intOf]; omega
          · refine wpOp_runG (o := ⟨some 47, _, _, _, _, _⟩) rfl rfl fun K' hK => ?_
            go_simp
            refine (HOw.out w8 E8.out).mono ?_
            rintro e w10 ⟨a, c, gg, rfl, y1, y2, y3⟩
            have Y1 := Lib.hid y1
            have Y2 := Lib.hid (fun b hb => Nat.le_trans E8.out.size (y2 b hb))
            have E10 := Lib.hid (E8.out.trans (y3.mono E8.out.size))
            clear y1 y2 y3 hS0
            have hS0 := HS.out w10 E10.out
            refine hK _ _ ⟨hS0, ?_⟩
            clear hK K'
            try simp only [Act.put, List.setIfInBounds_toArray, List.set_cons_zero, List.set_cons_succ]
            refine wpAnyH_all (rs := [4, 7]) (by kernel_rfl) (by simp) ?_
            intro i hi
            simp only [List.mem_cons, List.not_mem_nil, or_false] at hi
            rcases hi with rfl | rfl
            · refine wpOp_runG (o := ⟨some 45, _, _, _, _, _⟩) rfl rfl fun K' hK => ?_
              have hgc := HGC.out w10 E10.out
              go_simp
              clear hgc
              refine hK _ _ ⟨hS0, ?_⟩
              clear hK K'
              try simp only [Act.put, List.setIfInBounds_toArray, List.set_cons_zero, List.set_cons_succ]
              refine wpAnyH_all (rs := [7]) (by kernel_rfl) (by simp) ?_
              intro i hi
              rw [List.mem_singleton] at hi
              subst hi
              refine wpOp_runG (o := ⟨some 48, _, _, _, _, _⟩) rfl rfl fun K' hK => ?_
              go_simp
              obtain ⟨w11, hw11⟩ : ∃ w', w10.alloc (.cells #[.int .u32 (r0 : Nat), .slice a rl.length c] 80) = w' := ⟨_, rfl⟩
              have HSr := Lib.hid (show Src Try.prog 2 47 (.slice (some ⟨w10.heap.size, 0, none⟩) 1 1) 1 [.int .u32 (r0 : Nat), .slice a rl.length c] w11 by rw [← hw11]; exact srcMany Try.underlying47 w10 [.int .u32 (r0 : Nat), .slice a rl.length c] 80 1 2 rfl (by simp [Value.oneCell']))
              have EA : Below w10.heap.size w10 w11 := by rw [← hw11]; exact ext_alloc _ _
              rw [hw11]
              have Y1 := Lib.hid (Y1.out.ext EA)
              have E11 := Lib.hid (E10.out.trans (EA.mono E10.out.size))
              clear hw11 hS0 EA
              have hS0 := HS.out w11 E11.out
              refine hK _ _ ⟨hS0, ?_⟩
              clear hK K'
              try simp only [Act.put, List.setIfInBounds_toArray, List.set_cons_zero, List.set_cons_succ]
              refine wpAnyH_all (rs := [8]) (by kernel_rfl) (by simp) ?_
              intro i hi
              rw [List.mem_singleton] at hi
              subst hi
              refine wpOp_runG (o := ⟨some 49, _, _, _, _, _⟩) rfl rfl fun K' hK => ?_
              refine wp_app (.tmp 45) (.tmp 48) 47 47 rfl hE (Hown.out.ext E11.out) rfl rfl HSr.out (by simp [maxLen]; omega) (by omega) ?_
              intro ao3 cap3 g3 w9 ho3 hg3 hon3
              have Ho3 := Lib.hid ho3
              have Hg3 := Lib.hid hg3
              have Hon3 := Lib.hid hon3
              have hgl9 := Nat.lt_of_lt_of_le hgl2 E11.out.size
              have hgc := (hon3.cell hgl9 (fun e => hgr e) 0).trans (HGC.out w11 E11.out)
              have hgf := (hon3.frozen hgl9 (fun e => hgr e) 0).trans (HGF.out w11 E11.out)
              have hS1 := HSO.out w11 w9 E11.out hon3
              clear ho3 hg3 hon3 hS0
              have hS0 := hS1
              clear hS1
              refine hK _ _ ⟨hS0, ?_⟩
              clear hK K'
              try simp only [Act.put, List.setIfInBounds_toArray, List.set_cons_zero, List.set_cons_succ]
              refine wpAnyH_take (i := 9) (oi := ⟨some 50, _, _, _, _, _⟩) (v := ?_) rfl (by kernel_rfl) (by kernel_rfl) (by kernel_rfl) (fun _ _ _ h => h) (Or.inl ⟨by rfl, ?_⟩) hS0 ?_
              rotate_left
              · (intro w' hSw; obtain ⟨s0, s1⟩ := hSw; go_simp; try (with_reducible rfl))
              simp only [Act.put, List.setIfInBounds_toArray, List.set_cons_zero, List.set_cons_succ]
              refine wpAnyH_take (i := 10) (oi := ⟨some 51, _, _, _, _, _⟩) (v := ?_) rfl (by kernel_rfl) (by kernel_rfl) (by kernel_rfl) (fun _ _ _ h => h) (Or.inl ⟨by rfl, ?_⟩) hS0 ?_
              rotate_left
              · (intro w' hSw; obtain ⟨s0, s1⟩ := hSw; go_simp; try (with_reducible rfl))
              simp only [Act.put, List.setIfInBounds_toArray, List.set_cons_zero, List.set_cons_succ]
              refine wpAnyH_all (rs := [11]) (by kernel_rfl) (by simp) ?_
              intro i hi
              rw [List.mem_singleton] at hi
              subst hi
              refine wpOp_runG (o := ⟨none, _, _, _, _, _⟩) rfl rfl fun K' hK => ?_
              go_simp
              refine hK _ _ ⟨?_, ?_⟩
              · obtain ⟨s0, s1⟩ := hS0
                exact ⟨(World.cell?_setCell_other _ _ _ _ (by intro e; injection e with e1 _ _; exact hqg e1.symm)).trans s0, (World.cell?_setCell_other _ _ _ _ (by intro e; injection e with e1 _ _; exact hqg e1.symm)).trans s1⟩
              clear hK K'
              try simp only [Act.put, List.setIfInBounds_toArray, List.set_cons_zero, List.set_cons_succ]
              refine wpAnyH_done (by kernel_rfl) ?_ _
              have hg3' : ∀ b, g3 = some b → gr = some b ∨ w2.heap.size ≤ b := fun b h => by
                rcases Hg3.out with rfl | rfl
                · exact .inl h
                · cases h; exact .inr E11.out.size
              have hz9 := Nat.le_trans E11.out.size Hon3.out.size
              have hgh : w9.heap[g]? = some (.cells #[.slice ao1 k cap1] 119 (0, 0)) := (Hon3.out.same g hgl9 (fun e => hgr e)).trans ((E11.out.block g hgl2).trans Hgb2.out)
              have hgs := heap_setCells_in g 119 (0, 0) [.slice ao3 (k + 1) cap3] 0 w9 _ hgh
              have hrow : OwnS rowRep (fun b => fe b ∨ gg = some b) w9 ao3 cap3 g3 80 (R.take k ++ [(r0, rl)]) := by
                refine OwnS.snoc (w := w2) (forall2_imp (fun x cs h => rowRep.mono h (fun b hb _ => .inl hb)) Hall.out) (cs := [.int .u32 (r0 : Nat), .slice a rl.length c]) (rowRep_ok (p := (r0, rl)) Y1.out.capLe.1 Y1.out.capLe.2 hr0 ?_) (by rw [hkl]; exact Ho3.out) (fun b hb hl => ?_) hz9
                · refine (Y1.out.rd.only Hon3.out (fun b hb _ e => ?_)).mono (fun b hb _ => .inr (hb.elim (fun h => h.elim) id))
                  rcases hb with h | h
                  · exact h
                  · have h5 := Y2.out b h; have h6 := Hgt.out b e; omega
                · rcases hb with h | h
                  · exact (Hon3.out.same b (Nat.lt_of_lt_of_le hl E11.out.size) (Hfe.out.1 b h).2.2).trans (E11.out.block b hl)
                  · have h5 := Y2.out b h; omega
              have hgN : g3 ≠ some g := fun e => (hg3' g e).elim (fun h => hgr h) (fun h => by omega)
              have Hgs := Lib.hid hgs
              have Hrow := Lib.hid hrow
              have hY1l := Y1.out.lt
              clear hgs hrow hgc hgf
              go_wp2_with fail
              go_roundw
              case rel =>
                refine ⟨k + 1, ao3, cap3, g3, fun b => fe b ∨ gg = some b, by omega, by go_num, HV.out, ?_, ?_, fun b hb => ?_, fun b hb => ?_, ?_⟩
                · rw [Hst.out, List.length_append, hkl]; exact Hgs.out
                · rw [Hst.out]
                  refine Hrow.out.keep (fun b hb hl => Below.heap_setCell _ _ _ _ (fun e => ?_)) (by simp)
                  simp only at e
                  rcases hb with (h | h) | h
                  · have := (Hfe.out.1 b h).1; omega
                  · have h5 := Y2.out b h; omega
                  · exact hgN (by rw [h, e])
                · rcases hb with h | h
                  · refine ⟨(Hfe.out.1 b h).1, by have h5 := (Hfe.out.1 b h).2.1; simp; omega, fun e => (hg3' b e).elim (Hfe.out.1 b h).2.2 (fun h6 => by have h5 := (Hfe.out.1 b h).2.1; omega)⟩
                  · have h5 := Y2.out b h
                    have h6 := hY1l b h
                    have h7 := Hon3.out.size
                    refine ⟨by omega, by simp; omega, fun e => ?_⟩
                    rcases Hg3.out with h8 | h8 <;> rw [h8] at e
                    · have := Hgt.out b e; omega
                    · cases e; omega
                · exact (hg3' b hb).elim (Hfe.out.2 b) (fun h => by omega)
                · exact (HB2.out.trans ((E11.out.mono HB2.out.size).trans (Hon3.out.below (Nat.le_trans HB2.out.size E11.out.size) (fun j hj e => by have := Hfe.out.2 j e; omega)))).setCell (by show w.heap.size ≤ g; omega) _
              case measure => simp [intOf]; omega
            · refine wpOp_runG (o := ⟨some 48, _, _, _, _, _⟩) rfl rfl fun K' hK => ?_
              go_simp
              obtain ⟨w11, hw11⟩ : ∃ w', w10.alloc (.cells #[.int .u32 (r0 : Nat), .slice a rl.length c] 80) = w' := ⟨_, rfl⟩
              have HSr := Lib.hid (show Src Try.prog 2 47 (.slice (some ⟨w10.heap.size, 0, none⟩) 1 1) 1 [.int .u32 (r0 : Nat), .slice a rl.length c] w11 by rw [← hw11]; exact srcMany Try.underlying47 w10 [.int .u32 (r0 : Nat), .slice a rl.length c] 80 1 2 rfl (by simp [Value.oneCell']))
              have EA : Below w10.heap.size w10 w11 := by rw [← hw11]; exact ext_alloc _ _
              rw [hw11]
              have Y1 := Lib.hid (Y1.out.ext EA)
              have E11 := Lib.hid (E10.out.trans (EA.mono E10.out.size))
              clear hw11 hS0 EA
              have hS0 := HS.out w11 E11.out
              refine hK _ _ ⟨hS0, ?_⟩
              clear hK K'
              try simp only [Act.put, List.setIfInBounds_toArray, List.set_cons_zero, List.set_cons_succ]
              refine wpAnyH_all (rs := [4]) (by kernel_rfl) (by simp) ?_
              intro i hi
              rw [List.mem_singleton] at hi
              subst hi
              refine wpOp_runG (o := ⟨some 45, _, _, _, _, _⟩) rfl rfl fun K' hK => ?_
              have hgc := HGC.out w11 E11.out
              go_simp
              clear hgc
              refine hK _ _ ⟨hS0, ?_⟩
              clear hK K'
              try simp only [Act.put, List.setIfInBounds_toArray, List.set_cons_zero, List.set_cons_succ]
              refine wpAnyH_all (rs := [8]) (by kernel_rfl) (by simp) ?_
              intro i hi
              rw [List.mem_singleton] at hi
              subst hi
              refine wpOp_runG (o := ⟨some 49, _, _, _, _, _⟩) rfl rfl fun K' hK => ?_
              refine wp_app (.tmp 45) (.tmp 48) 47 47 rfl hE (Hown.out.ext E11.out) rfl rfl HSr.out (by simp [maxLen]; omega) (by omega) ?_
              intro ao3 cap3 g3 w9 ho3 hg3 hon3
              have Ho3 := Lib.hid ho3
              have Hg3 := Lib.hid hg3
              have Hon3 := Lib.hid hon3
              have hgl9 := Nat.lt_of_lt_of_le hgl2 E11.out.size
              have hgc := (hon3.cell hgl9 (fun e => hgr e) 0).trans (HGC.out w11 E11.out)
              have hgf := (hon3.frozen hgl9 (fun e => hgr e) 0).trans (HGF.out w11 E11.out)
              have hS1 := HSO.out w11 w9 E11.out hon3
              clear ho3 hg3 hon3 hS0
              have hS0 := hS1
              clear hS1
              refine hK _ _ ⟨hS0, ?_⟩
              clear hK K'
              try simp only [Act.put, List.setIfInBounds_toArray, List.set_cons_zero, List.set_cons_succ]
              refine wpAnyH_take (i := 9) (oi := ⟨some 50, _, _, _, _, _⟩) (v := ?_) rfl (by kernel_rfl) (by kernel_rfl) (by kernel_rfl) (fun _ _ _ h => h) (Or.inl ⟨by rfl, ?_⟩) hS0 ?_
              rotate_left
              · (intro w' hSw; obtain ⟨s0, s1⟩ := hSw; go_simp; try (with_reducible rfl))
              simp only [Act.put, List.setIfInBounds_toArray, List.set_cons_zero, List.set_cons_succ]
              refine wpAnyH_take (i := 10) (oi := ⟨some 51, _, _, _, _, _⟩) (v := ?_) rfl (by kernel_rfl) (by kernel_rfl) (by kernel_rfl) (fun _ _ _ h => h) (Or.inl ⟨by rfl, ?_⟩) hS0 ?_
              rotate_left
              · (intro w' hSw; obtain ⟨s0, s1⟩ := hSw; go_simp; try (with_reducible rfl))
              simp only [Act.put, List.setIfInBounds_toArray, List.set_cons_zero, List.set_cons_succ]
              refine wpAnyH_all (rs := [11]) (by kernel_rfl) (by simp) ?_
              intro i hi
              rw [List.mem_singleton] at hi
              subst hi
              refine wpOp_runG (o := ⟨none, _, _, _, _, _⟩) rfl rfl fun K' hK => ?_
              go_simp
              refine hK _ _ ⟨?_, ?_⟩
              · obtain ⟨s0, s1⟩ := hS0
                exact ⟨(World.cell?_setCell_other _ _ _ _ (by intro e; injection e with e1 _ _; exact hqg e1.symm)).trans s0, (World.cell?_setCell_other _ _ _ _ (by intro e; injection e with e1 _ _; exact hqg e1.symm)).trans s1⟩
              clear hK K'
              try simp only [Act.put, List.setIfInBounds_toArray, List.set_cons_zero, List.set_cons_succ]
              refine wpAnyH_done (by kernel_rfl) ?_ _
              have hg3' : ∀ b, g3 = some b → gr = some b ∨ w2.heap.size ≤ b := fun b h => by
                rcases Hg3.out with rfl | rfl
                · exact .inl h
                · cases h; exact .inr E11.out.size
              have hz9 := Nat.le_trans E11.out.size Hon3.out.size
              have hgh : w9.heap[g]? = some (.cells #[.slice ao1 k cap1] 119 (0, 0)) := (Hon3.out.same g hgl9 (fun e => hgr e)).trans ((E11.out.block g hgl2).trans Hgb2.out)
              have hgs := heap_setCells_in g 119 (0, 0) [.slice ao3 (k + 1) cap3] 0 w9 _ hgh
              have hrow : OwnS rowRep (fun b => fe b ∨ gg = some b) w9 ao3 cap3 g3 80 (R.take k ++ [(r0, rl)]) := by
                refine OwnS.snoc (w := w2) (forall2_imp (fun x cs h => rowRep.mono h (fun b hb _ => .inl hb)) Hall.out) (cs := [.int .u32 (r0 : Nat), .slice a rl.length c]) (rowRep_ok (p := (r0, rl)) Y1.out.capLe.1 Y1.out.capLe.2 hr0 ?_) (by rw [hkl]; exact Ho3.out) (fun b hb hl => ?_) hz9
                · refine (Y1.out.rd.only Hon3.out (fun b hb _ e => ?_)).mono (fun b hb _ => .inr (hb.elim (fun h => h.elim) id))
                  rcases hb with h | h
                  · exact h
                  · have h5 := Y2.out b h; have h6 := Hgt.out b e; omega
                · rcases hb with h | h
                  · exact (Hon3.out.same b (Nat.lt_of_lt_of_le hl E11.out.size) (Hfe.out.1 b h).2.2).trans (E11.out.block b hl)
                  · have h5 := Y2.out b h; omega
              have hgN : g3 ≠ some g := fun e => (hg3' g e).elim (fun h => hgr h) (fun h => by omega)
              have Hgs := Lib.hid hgs
              have Hrow := Lib.hid hrow
              have hY1l := Y1.out.lt
              clear hgs hrow hgc hgf
              go_wp2_with fail
              go_roundw
              case rel =>
                refine ⟨k + 1, ao3, cap3, g3, fun b => fe b ∨ gg = some b, by omega, by go_num, HV.out, ?_, ?_, fun b hb => ?_, fun b hb => ?_, ?_⟩
                · rw [Hst.out, List.length_append, hkl]; exact Hgs.out
                · rw [Hst.out]
                  refine Hrow.out.keep (fun b hb hl => Below.heap_setCell _ _ _ _ (fun e => ?_)) (by simp)
                  simp only at e
                  rcases hb with (h | h) | h
                  · have := (Hfe.out.1 b h).1; omega
                  · have h5 := Y2.out b h; omega
                  · exact hgN (by rw [h, e])
                · rcases hb with h | h
                  · refine ⟨(Hfe.out.1 b h).1, by have h5 := (Hfe.out.1 b h).2.1; simp; omega, fun e => (hg3' b e).elim (Hfe.out.1 b h).2.2 (fun h6 => by have h5 := (Hfe.out.1 b h).2.1; omega)⟩
                  · have h5 := Y2.out b h
                    have h6 := hY1l b h
                    have h7 := Hon3.out.size
                    refine ⟨by omega, by simp; omega, fun e => ?_⟩
                    rcases Hg3.out with h8 | h8 <;> rw [h8] at e
                    · have := Hgt.out b e; omega
                    · cases e; omega
                · exact (hg3' b hb).elim (Hfe.out.2 b) (fun h => by omega)
                · exact (HB2.out.trans ((E11.out.mono HB2.out.size).trans (Hon3.out.below (Nat.le_trans HB2.out.size E11.out.size) (fun j hj e => by have := Hfe.out.2 j e; omega)))).setCell (by show w.heap.size ≤ g; omega) _
              case measure => simp [intOf]; omega
    · obtain rfl : k = R.length := by omega
      have HV := Lib.hid (show newR R = (R, 0) by unfold newR; rw [if_pos (newM15_ok hn)])
      rw [List.take_length] at hgb hO
      have Hgb := Lib.hid hgb
      have HO := Lib.hid hO
      have HB := Lib.hid hB
      have Hfe := Lib.hid (And.intro hfe hgr1)
      clear hn hB hgb hO hfe hgr1 HST
      go_wp2_with fail
      go_ret2
      rw [HV.out]
      exact ⟨some g, rfl, fun h => absurd rfl h, (fun _ h => by cases h), ⟨by omega, ao1, cap1, Hgb.out, HO.out.capLe.1, HO.out.capLe.2, HO.out.rd.mono (fun b hb _ => hb.elim (fun h => by have := (Hfe.out.1 b h).1; omega) (fun h => by have := Hfe.out.2 b h; omega))⟩, HB.out⟩
end Go.Proofs.Ytlgnpogmgpgdaaa
