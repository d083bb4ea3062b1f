/- Texts merged into one: WkMay, MixPlain, Mix, MixRow, MixBelow. -/
import Derived.Test.YtcklfffeimnfeaaGreatBx06
import Derived.Test.YtcklfffeimnfeaaGreatBx00
import Derived.Laws.Bits64
import Derived.Test.YtcklfffeimnfeaaGreatProg
import Derived.Deep.QuietTactic
import Derived.BigQuiet
import Derived.Deep.RegionHeld3
namespace Go.Proofs.YtcklfffeimnfeaaGreat
set_option linter.unusedSimpArgs false
set_option linter.unusedVariables false
set_option maxRecDepth 100000
open Go.RowKit

set_option maxHeartbeats 1600000 in
theorem apart_any (x : WkD) (w : World) : Calls Tryz.prog 83 #[.agg (wkCs x)] w (RetB (.agg (wkCs x)) w) := by
  obtain ⟨a, b, c, d, e, f, g⟩ := x
  unfold wkCs
  go_enter Tryz.func83, Tryz.ntmps83
  go_wp2_with fail
  exact bodyPost_ret (results_cell_row rfl _ _ (w.heap.size + 1) 140 _ (0, 0) _ rfl (heap_alloc2_new _ _ _) Tryz.underlying140 rfl (show _ = some 7 by kernel_rfl)) rfl ⟨rfl, (ext_alloc w _).alloc (by simp) _⟩
def mayW (j : JobD) (x : WkD) : Bool :=
  if srcH j x.id = false ∨ j.length < x.step ∨ j.tries ≤ x.try_ then false
  else if x.step = 0 then decide (x = newJ j x.id)
  else if j.kind ≠ 2 ∧ (x.prev ≠ 0 ∨ x.try_ ≠ 0) then false
  else if x.state = 0 then decide (x.next = 0)
  else decide (x.state = 1) && (decide (j.kind = 2) && decide (x.step < j.length))

theorem wk_cell {w : World} {b : Nat} {x : WkD} {t : TypeId} (h : w.heap[b]? = some (.cells (wkCs x) t (0, 0))) (c : Nat) : w.cell? ⟨b, c, none⟩ = (wkCs x)[c]? := cell_of_row w b c _ t (0, 0) h
def WkCells (w : World) (b : Nat) (x : WkD) : Prop := w.cell? ⟨b, 0, none⟩ = some (.int .u32 (x.id : Nat)) ∧ w.cell? ⟨b, 1, none⟩ = some (.int .u32 (x.step : Nat)) ∧ w.cell? ⟨b, 2, none⟩ = some (.int .u32 (x.at_ : Nat)) ∧ w.cell? ⟨b, 3, none⟩ = some (.int .u32 (x.prev : Nat)) ∧ w.cell? ⟨b, 4, none⟩ = some (.int .u32 (x.next : Nat)) ∧ w.cell? ⟨b, 5, none⟩ = some (.int .u32 (x.try_ : Nat)) ∧ w.cell? ⟨b, 6, none⟩ = some (.int .u32 (x.state : Nat))
theorem wk_cells {w : World} {b : Nat} {x : WkD} {t : TypeId} (h : w.heap[b]? = some (.cells (wkCs x) t (0, 0))) : WkCells w b x :=
  ⟨wk_cell h 0, wk_cell h 1, wk_cell h 2, wk_cell h 3, wk_cell h 4, wk_cell h 5, wk_cell h 6⟩
theorem WkCells.keep {w w' : World} {b : Nat} {x : WkD} (h : WkCells w b x) (hk : w'.heap[b]? = w.heap[b]?) : WkCells w' b x := by
  obtain ⟨a0, a1, a2, a3, a4, a5, a6⟩ := h
  exact ⟨(World.cell?_of_block (w := w) hk).trans a0, (World.cell?_of_block (w := w) hk).trans a1, (World.cell?_of_block (w := w) hk).trans a2, (World.cell?_of_block (w := w) hk).trans a3, (World.cell?_of_block (w := w) hk).trans a4, (World.cell?_of_block (w := w) hk).trans a5, (World.cell?_of_block (w := w) hk).trans a6⟩
theorem ss_keep {W W' : World} {b1 b5 : Nat} {x y : WkD} (h : W.cell? ⟨b1, 0, none⟩ = some (.int .u32 (x.id : Nat)) ∧ W.cell? ⟨b1, 1, none⟩ = some (.int .u32 (x.step : Nat)) ∧ W.cell? ⟨b1, 2, none⟩ = some (.int .u32 (x.at_ : Nat)) ∧ W.cell? ⟨b1, 3, none⟩ = some (.int .u32 (x.prev : Nat)) ∧ W.cell? ⟨b1, 4, none⟩ = some (.int .u32 (x.next : Nat)) ∧ W.cell? ⟨b1, 5, none⟩ = some (.int .u32 (x.try_ : Nat)) ∧ W.cell? ⟨b1, 6, none⟩ = some (.int .u32 (x.state : Nat)) ∧ W.cell? ⟨b5, 0, none⟩ = some (.int .u32 (y.id : Nat)) ∧ W.cell? ⟨b5, 1, none⟩ = some (.int .u32 (y.step : Nat)) ∧ W.cell? ⟨b5, 2, none⟩ = some (.int .u32 (y.at_ : Nat)) ∧ W.cell? ⟨b5, 3, none⟩ = some (.int .u32 (y.prev : Nat)) ∧ W.cell? ⟨b5, 4, none⟩ = some (.int .u32 (y.next : Nat)) ∧ W.cell? ⟨b5, 5, none⟩ = some (.int .u32 (y.try_ : Nat)) ∧ W.cell? ⟨b5, 6, none⟩ = some (.int .u32 (y.state : Nat))) (hB : Below W.heap.size W W') : W'.cell? ⟨b1, 0, none⟩ = some (.int .u32 (x.id : Nat)) ∧ W'.cell? ⟨b1, 1, none⟩ = some (.int .u32 (x.step : Nat)) ∧ W'.cell? ⟨b1, 2, none⟩ = some (.int .u32 (x.at_ : Nat)) ∧ W'.cell? ⟨b1, 3, none⟩ = some (.int .u32 (x.prev : Nat)) ∧ W'.cell? ⟨b1, 4, none⟩ = some (.int .u32 (x.next : Nat)) ∧ W'.cell? ⟨b1, 5, none⟩ = some (.int .u32 (x.try_ : Nat)) ∧ W'.cell? ⟨b1, 6, none⟩ = some (.int .u32 (x.state : Nat)) ∧ W'.cell? ⟨b5, 0, none⟩ = some (.int .u32 (y.id : Nat)) ∧ W'.cell? ⟨b5, 1, none⟩ = some (.int .u32 (y.step : Nat)) ∧ W'.cell? ⟨b5, 2, none⟩ = some (.int .u32 (y.at_ : Nat)) ∧ W'.cell? ⟨b5, 3, none⟩ = some (.int .u32 (y.prev : Nat)) ∧ W'.cell? ⟨b5, 4, none⟩ = some (.int .u32 (y.next : Nat)) ∧ W'.cell? ⟨b5, 5, none⟩ = some (.int .u32 (y.try_ : Nat)) ∧ W'.cell? ⟨b5, 6, none⟩ = some (.int .u32 (y.state : Nat)) := by
  obtain ⟨a0, a1, a2, a3, a4, a5, a6, c0, c1, c2, c3, c4, c5, c6⟩ := h
  have k1 := fun o => World.cell?_of_block (w := W) (w' := W') (a := ⟨b1, o, none⟩) (hB.block b1 (block_lt_of_cell a0))
  have k5 := fun o => World.cell?_of_block (w := W) (w' := W') (a := ⟨b5, o, none⟩) (hB.block b5 (block_lt_of_cell c0))
  exact ⟨(k1 0).trans a0, (k1 1).trans a1, (k1 2).trans a2, (k1 3).trans a3, (k1 4).trans a4, (k1 5).trans a5, (k1 6).trans a6, (k5 0).trans c0, (k5 1).trans c1, (k5 2).trans c2, (k5 3).trans c3, (k5 4).trans c4, (k5 5).trans c5, (k5 6).trans c6⟩
def JbCells (w : World) (b : Nat) (j : JobD) : Prop := w.cell? ⟨b, 0, none⟩ = some (.int .u8 (j.kind : Nat)) ∧ w.cell? ⟨b, 2, none⟩ = some (.int .u32 (j.length : Nat)) ∧ w.cell? ⟨b, 9, none⟩ = some (.int .u32 (j.tries : Nat))
set_option maxHeartbeats 6400000 in
theorem mayw_any (j : JobD) (hj : JobOk j) (ao : Option Addr) (cap : Nat) (x : WkD) (hx : WkOk x) (w : World) (hl : j.src.length ≤ 1000000) (hsrc : Rd w ao j.src.length (u32s j.src)) :
    Calls Tryz.prog 43 #[.agg (jobCs j ao cap), .agg (wkCs x)] w (RetB (.bool (mayW j x)) w) := by
  have HM := Lib.hid (fun W (h : Below w.heap.size w W) => jnew_any j hj ao cap x.id hx.id W hl (hsrc.ext h))
  unfold newV at HM
  have Hx := Lib.hid hx
  have hjk := hj.kind
  obtain ⟨W2, hW2⟩ : ∃ W2, W2 = (w.alloc (.cells (jobCs j ao cap) 29)).alloc (.cells (wkCs x) 44) := ⟨_, rfl⟩
  have HB2 := Lib.hid (show Below w.heap.size w W2 by rw [hW2]; exact (ext_alloc w _).alloc (by simp) _)
  have hz2 : W2.heap.size = w.heap.size + 2 := by rw [hW2]; simp
  have Hh1 := Lib.hid (show W2.heap[w.heap.size]? = some (.cells (jobCs j ao cap) 29 (0, 0)) by rw [hW2]; exact heap_alloc2_old _ _ _)
  have Hh2 := Lib.hid (show W2.heap[w.heap.size + 1]? = some (.cells (wkCs x) 44 (0, 0)) by rw [hW2]; exact heap_alloc2_new _ _ _)
  obtain ⟨r, hr⟩ : ∃ r, r = mayW j x := ⟨_, rfl⟩
  rw [← hr]
  unfold mayW at hr
  have Hr := Lib.hid hr
  clear hr
  have d0 := (wk_cells Hh2.out).1
  clear hsrc hx hj
  go_enter Tryz.func43, Tryz.ntmps43
  go_upto_region 1 with fail
  rw [← hW2]
  generalize newJ j x.id = y at *
  generalize srcH j x.id = is at *
  clear hW2
  go_cut [5, 6] (fun v5 v6 wx => v6 = .bool is ∧ ∃ b5, v5 = .pointer (some ⟨b5, 0, none⟩) ∧ WkCells wx b5 y ∧ Below W2.heap.size W2 wx ∧ W2.heap.size ≤ b5 ∧ b5 < wx.heap.size)
  case first =>
    rw [show wkCs y = #[.int .u32 (y.id : Nat), .int .u32 (y.step : Nat), .int .u32 (y.at_ : Nat), .int .u32 (y.prev : Nat), .int .u32 (y.next : Nat), .int .u32 (y.try_ : Nat), .int .u32 (y.state : Nat)] from rfl] at HM
    go_wp2_with (first
      | (refine wpList_load_row rfl _ _ rfl w.heap.size rfl 29 (jobCs j ao cap) (0, 0) _ Hh1.out Tryz.underlying29 rfl (show _ = some 15 by kernel_rfl) ?_)
      | (go_at_call 33; refine (HM.out _ HB2.out).mono ?_; rintro e w1 ⟨rfl, hB1⟩; have HB1 := Lib.hid hB1; clear hB1))
    go_meet
    exact ⟨rfl, w1.heap.size, rfl, wk_cells (x := y) (heap_alloc_new w1 _), HB1.out.alloc HB1.out.size _, HB1.out.size, by simp⟩
  case rest =>
    obtain ⟨rfl, b5, rfl, hy, hB3, hb5, hb6⟩ := hcut
    have HB3 := Lib.hid hB3
    have hx := (wk_cells Hh2.out).keep (hB3.block _ (by omega))
    have hjc : ∀ c v, (jobCs j ao cap)[c]? = some v → wc.cell? ⟨w.heap.size, c, none⟩ = some v := fun c v h => by
      rw [World.cell?_of_block (w := W2) (hB3.block w.heap.size (by omega)), cell_of_row W2 _ c _ _ (0, 0) Hh1.out]; exact h
    obtain ⟨x0, x1, x2, x3, x4, x5, x6⟩ := hx
    have j0 : wc.cell? ⟨w.heap.size, 0, none⟩ = some (.int .u8 (j.kind : Nat)) := hjc 0 _ rfl
    have j2 : wc.cell? ⟨w.heap.size, 2, none⟩ = some (.int .u32 (j.length : Nat)) := hjc 2 _ rfl
    have j9 : wc.cell? ⟨w.heap.size, 9, none⟩ = some (.int .u32 (j.tries : Nat)) := hjc 9 _ rfl
    have HBw := Lib.hid (HB2.out.trans (hB3.mono (by omega)))
    have Hy := Lib.hid hy
    clear hB3 hjc d0 hy
    by_cases hs : x.step = 0
    · have hs1 : ((x.step : Int) == 0) = true := by rw [hs]; rfl
      have hs2 : (x.step == 0) = true := by rw [hs]; rfl
      cases is with
      | false =>
        go_wp2_with fail
        go_ret
        exact ⟨by rw [Hr.out]; rfl, HBw.out⟩
      | true =>
        have l1 : decide (j.length < x.step) = false := decide_eq_false (by omega)
        have l2 : decide ((j.length : Int) < (x.step : Int)) = false := decide_eq_false (by omega)
        by_cases ht : j.tries ≤ x.try_
        · have t1 : decide (j.tries ≤ x.try_) = true := decide_eq_true ht
          have t2 : decide ((j.tries : Int) ≤ (x.try_ : Int)) = true := decide_eq_true (by omega)
          have hv : r = false := by rw [Hr.out]; simp [ht]
          go_wp2_with fail
          go_ret
          exact ⟨by rw [hv]; rfl, HBw.out⟩
        · have t1 : decide (j.tries ≤ x.try_) = false := decide_eq_false ht
          have t2 : decide ((j.tries : Int) ≤ (x.try_ : Int)) = false := decide_eq_false (by omega)
          have hv : r = decide (x = y) := by rw [Hr.out]; simp [ht, hs]
          have Hv := Lib.hid hv
          clear hv hs
          go_wp2_with fail
          clear hs1 hs2 l1 l2 t1 t2
          have heq := eq_numbers x y
          obtain ⟨y0, y1, y2, y3, y4, y5, y6⟩ := Hy.out
          have HX := Lib.hid (fun W => (show Calls Tryz.prog 83 #[.agg #[.int .u32 (x.id : Nat), .int .u32 (x.step : Nat), .int .u32 (x.at_ : Nat), .int .u32 (x.prev : Nat), .int .u32 (x.next : Nat), .int .u32 (x.try_ : Nat), .int .u32 (x.state : Nat)]] W (RetB (.agg (wkCs x)) W) from apart_any x W))
          have HY := Lib.hid (fun W => (show Calls Tryz.prog 83 #[.agg #[.int .u32 (y.id : Nat), .int .u32 (y.step : Nat), .int .u32 (y.at_ : Nat), .int .u32 (y.prev : Nat), .int .u32 (y.next : Nat), .int .u32 (y.try_ : Nat), .int .u32 (y.state : Nat)]] W (RetB (.agg (wkCs y)) W) from apart_any y W))
          have HP0 := Lib.hid (ss_keep (b1 := w.heap.size + 1) (b5 := b5) (x := x) (y := y) ⟨x0, x1, x2, x3, x4, x5, x6, y0, y1, y2, y3, y4, y5, y6⟩ (ext_drew wc))
          go_region_held3 (fun w' => w'.cell? ⟨w.heap.size + 1, 0, none⟩ = some (.int .u32 (x.id : Nat)) ∧ w'.cell? ⟨w.heap.size + 1, 1, none⟩ = some (.int .u32 (x.step : Nat)) ∧ w'.cell? ⟨w.heap.size + 1, 2, none⟩ = some (.int .u32 (x.at_ : Nat)) ∧ w'.cell? ⟨w.heap.size + 1, 3, none⟩ = some (.int .u32 (x.prev : Nat)) ∧ w'.cell? ⟨w.heap.size + 1, 4, none⟩ = some (.int .u32 (x.next : Nat)) ∧ w'.cell? ⟨w.heap.size + 1, 5, none⟩ = some (.int .u32 (x.try_ : Nat)) ∧ w'.cell? ⟨w.heap.size + 1, 6, none⟩ = some (.int .u32 (x.state : Nat)) ∧ w'.cell? ⟨b5, 0, none⟩ = some (.int .u32 (y.id : Nat)) ∧ w'.cell? ⟨b5, 1, none⟩ = some (.int .u32 (y.step : Nat)) ∧ w'.cell? ⟨b5, 2, none⟩ = some (.int .u32 (y.at_ : Nat)) ∧ w'.cell? ⟨b5, 3, none⟩ = some (.int .u32 (y.prev : Nat)) ∧ w'.cell? ⟨b5, 4, none⟩ = some (.int .u32 (y.next : Nat)) ∧ w'.cell? ⟨b5, 5, none⟩ = some (.int .u32 (y.try_ : Nat)) ∧ w'.cell? ⟨b5, 6, none⟩ = some (.int .u32 (y.state : Nat)))
            (first | exact HP0.out | exact HP1.out | exact HP2.out | exact ⟨x0, x1, x2, x3, x4, x5, x6, y0, y1, y2, y3, y4, y5, y6⟩)
            (first
              | (go_at_call 83; (first | (with_reducible refine (HX.out _).mono ?_) | (with_reducible refine (HY.out _).mono ?_)); rintro e w6 ⟨rfl, hB6⟩; first | (have HP2 := Lib.hid (ss_keep HP1.out hB6); have HB6' := Lib.hid (HBq.out.trans (hB6.mono HBq.out.size)); clear hB6) | (have HP1 := Lib.hid (ss_keep HP0.out hB6); have HBq := Lib.hid ((ext_drew wc).trans (hB6.mono (Nat.le_refl _))); clear hB6))
              | fail "no arm")
          all_goals
            go_wp2_with fail
            go_ret
            exact ⟨by rw [Hv.out]; rfl, HBw.out.trans (HB6'.out.mono HBw.out.size)⟩
    · go_wp2_with fail
      all_goals go_ret
      all_goals refine ⟨?_, HBw.out⟩
      all_goals
        rw [Hr.out]
        clear HM Hr HB3 HBw Hy x0 x1 x2 x3 x4 x5 x6 j0 j2 j9 hb5 hb6 HB2 hz2 Hh1 Hh2 Hx
        refine congrArg Ending.returned (congrArg Value.bool (Bool.eq_iff_iff.2 ?_))
        cases is
        all_goals try simp only [beq_iff_eq, bne_iff_ne, beq_eq_false_iff_ne, bne_eq_false_iff_eq, Bool.not_eq_true', Bool.not_eq_false', Bool.not_true, Bool.not_false, ne_eq, Bool.and_eq_true, Bool.or_eq_true, Bool.or_eq_false_iff, decide_eq_true_eq, decide_eq_false_iff_not, Bool.false_eq_true, Bool.true_eq_false, false_or, true_or, if_true, if_false, iff_self, false_iff, iff_false, not_true, not_false_iff] at *
        all_goals try omega
        all_goals (repeat' split)
        all_goals try simp only [beq_iff_eq, bne_iff_ne, ne_eq, Bool.and_eq_true, Bool.or_eq_true, decide_eq_true_eq, Bool.false_eq_true, iff_false, not_false_iff]
        all_goals omega
end Go.Proofs.YtcklfffeimnfeaaGreat

namespace Go.Proofs.YtcklfffeimnfeaaGreat
set_option linter.unusedSimpArgs false
set_option linter.unusedVariables false
set_option maxRecDepth 100000
open Go.RowKit

def shx (k : Int) (n : Int) : Int := bits BinOp.xor IntKind.u64 n (n / k)
def mixZ (n : Int) : Int :=
  shx 2147483648 (IntKind.u64.wrap (shx 134217728 (IntKind.u64.wrap (shx 1073741824 (IntKind.u64.wrap (n + 11400714819323198485)) * 13787848793156543929)) * 10723151780598845931))
def drawZ (s w t a : Int) : Int := mixZ (bits BinOp.xor IntKind.u64 (mixZ (bits BinOp.xor IntKind.u64 (mixZ (bits BinOp.xor IntKind.u64 (mixZ s) w)) t)) a)

def adN (n : Nat) : Nat := (n + 11400714819323198485) % 18446744073709551616
def muN (k c n : Nat) : Nat := (n ^^^ n / k) * c % 18446744073709551616
def shN (k n : Nat) : Nat := n ^^^ n / k
def mixN (n : Nat) : Nat := shN 2147483648 (muN 134217728 10723151780598845931 (muN 1073741824 13787848793156543929 (adN n)))
def drawN (s w t a : Nat) : Nat := mixN (mixN (mixN (mixN s ^^^ w) ^^^ t) ^^^ a)

end Go.Proofs.YtcklfffeimnfeaaGreat

namespace Go.Proofs.YtcklfffeimnfeaaGreat
set_option linter.unusedSimpArgs false
set_option linter.unusedVariables false
set_option maxRecDepth 100000
open Go.RowKit

set_option maxHeartbeats 400000 in
theorem mix_any (n : Int) (w : World) :
    Calls Tryz.prog 132 #[.int .u64 n] w fun e w' => e = .returned (.int .u64 (mixZ n)) ∧ w = w' := by
  go_enter Tryz.func132, Tryz.ntmps132
  go_wp2
  go_ret
  exact ⟨rfl, rfl⟩

set_option maxHeartbeats 400000 in
theorem draw_any (s k t a : Int) (w : World) :
    Calls Tryz.prog 131 #[.agg #[.int .u64 s, .int .u64 k, .int .u64 t, .int .u64 a]] w fun e w' => e = .returned (.int .u64 (drawZ s k t a)) ∧ Below w.heap.size w w' := by
  go_enter Tryz.func131, Tryz.ntmps131
  go_wp2_with fail
  go_quiet ((go_at_call 132; exact Calls.quiet_of_same ((mix_any _ _).mono fun _ _ ⟨h, k⟩ => ⟨h, k.symm⟩)))
  go_wp2
  go_ret
  exact ⟨rfl, below_drewN (ext_alloc _ _) _⟩

end Go.Proofs.YtcklfffeimnfeaaGreat

namespace Go.Proofs.YtcklfffeimnfeaaGreat
set_option linter.unusedSimpArgs false
set_option linter.unusedVariables false
set_option maxRecDepth 100000
open Go.RowKit

/-- a row's number k -/
def rowZ (d : Int) : Nat → Int
  | 0 => d
  | k + 1 => mixZ (rowZ d k)
def rowOk (d : Int) (pre : List Int) : Prop := pre = (List.range pre.length).map (rowZ d)
theorem rowOk_nil (d : Int) : rowOk d [] := rfl
theorem rowOk_snoc {d : Int} {pre : List Int} (h : rowOk d pre) : rowOk d (pre ++ [rowZ d pre.length]) := by
  unfold rowOk at *
  rw [List.length_append, List.length_singleton, List.range_succ, List.map_append, ← h]
  rfl

theorem rowOk_last {d x : Int} {pre : List Int} (h : rowOk d pre) (h1 : rowOk d (pre ++ [x])) : x = rowZ d pre.length := by
  unfold rowOk at h1 h
  rw [List.length_append, List.length_singleton, List.range_succ, List.map_append, ← h] at h1
  simpa using h1

def RowRel (d : Int) (J : List Int → (Nat → Prop) → World → Prop) (fp : Nat → Prop) (W : World) (N m : Nat) (v : Value) (wr : World) : Prop :=
  ∃ (pre : List Int) (fp1 : Nat → Prop), m + pre.length = N ∧ v = .int .u64 (rowZ d pre.length) ∧ rowOk d pre ∧ J pre fp1 wr ∧ Fwd fp fp1 W wr

attribute [local go_sem] Oper.semAt_some

set_option maxRecDepth 100000 in
set_option maxHeartbeats 1600000 in
theorem row_iter (b : Nat) (s k t a : Int) (N : Nat) :
    Iter Tryz.prog 130 #[.pointer (some ⟨b, 0, none⟩)] (fun x : Int => #[.int .u64 x]) (rowOk (drawZ s k t a)) (fun _ => False) (fun pre => pre.length ≤ N) (fun _ _ _ => True)
      (fun W => W.cell? ⟨b, 0, none⟩ = some (.int .u64 s) ∧ W.cell? ⟨b, 1, none⟩ = some (.int .u64 k) ∧ W.cell? ⟨b, 2, none⟩ = some (.int .u64 t) ∧ W.cell? ⟨b, 3, none⟩ = some (.int .u64 a)) (fun _ => False) := by
  rintro l J Jx fp W ⟨hc0, hc1, hc2, hc3⟩ hfp hJ hJx hBd hY h0
  refine callsIn_of_wp Tryz.func130 rfl trivial ?_
  simp only [Tryz.ntmps130, List.size_toArray, List.length_cons, List.length_nil, Nat.reduceAdd, Nat.reduceSub, Array.replicate_succ, Array.replicate_zero, List.push_toArray, List.append_toArray, List.nil_append, List.cons_append]
  have hf0 : ∀ k, fp k → k < W.heap.size := fun k hk => (hfp k hk).1
  have HJ := Lib.hid hJ
  have HJx := Lib.hid hJx
  have HBd := Lib.hid hBd
  have HY := Lib.hid hY
  have H0 := Lib.hid h0
  have Hf := Lib.hid hf0
  clear hJ hJx hBd hY h0 hfp hf0
  have hdr := draw_any s k t a
  gi_wp2_with (gi_at_call 131; refine (callsIn_wide.2 (hdr _)).mono ?_; rintro e w1 ⟨rfl, hB1⟩)
  have H1 := Lib.hid (J_ext HJ.out H0.out Hf.out hB1)
  have HF1 : Hid (Fwd fp fp W w1) := (Fwd.refl Hf.out).ext hB1
  clear hdr hc0 hc1 hc2 hc3
  gi_loopw [3] (fun v wr => ∃ m, RowRel (drawZ s k t a) J fp W N m v wr) (fun v wr => leastOf (fun m => RowRel (drawZ s k t a) J fp W N m v wr))
  case atStart => exact ⟨N, [], fp, rfl, rfl, rowOk_nil _, H1.out, HF1.out⟩
  case round =>
    obtain ⟨hsp, hmin⟩ := leastOf_spec hrel
    have Hmin := Lib.hid hmin
    clear hmin hrel
    obtain ⟨pre, fp1, hN, hu, hok, hj, hfw⟩ := hsp
    subst hu
    have HN := Lib.hid hN
    have Hok := Lib.hid hok
    have Hj := Lib.hid hj
    have Hfw := Lib.hid hfw
    clear hN hok hj hfw
    obtain ⟨fn, tmps, assign, body, hy, hR⟩ := HY.out pre fp1 _ wr Hj.out (fun k hk => (Hfw.out.own k hk).2) (Hfw.out.only.mono (fun k _ hk => .inl hk)) (rowOk_snoc Hok.out) trivial
    gi_wp2
    refine hR.mono ?_
    clear hR hy
    rintro e W2 ⟨fp2, hfw2, (⟨rfl, hj2⟩ | ⟨rfl, hjx2⟩)⟩
    · have Hj2 := Lib.hid hj2
      have Hfw2 := Lib.hid hfw2
      clear hj2 hfw2
      gi_wp2_with (gi_at_call 132; refine (callsIn_wide.2 (mix_any _ _)).mono ?_; rintro e w' ⟨rfl, rfl⟩)
      have hrel2 : ∀ m2, m2 + 1 + pre.length = N → RowRel (drawZ s k t a) J fp W N m2 (.int .u64 (mixZ (rowZ (drawZ s k t a) pre.length))) W2 := fun m2 h2 =>
        ⟨pre ++ [rowZ (drawZ s k t a) pre.length], fp2, by simp; omega, by simp [rowZ], rowOk_snoc Hok.out, Hj2.out, Hfw.out.trans Hfw2.out⟩
      have hb2 := HBd.out _ _ _ Hj2.out
      rw [List.length_append, List.length_singleton] at hb2
      have hN := HN.out
      go_roundw
      case rel => exact ⟨_, hrel2 (N - 1 - pre.length) (by omega)⟩
      case measure => exact Nat.lt_of_le_of_lt (leastOf_le (p := fun m => RowRel (drawZ s k t a) J fp W N m (.int .u64 (mixZ (rowZ (drawZ s k t a) pre.length))) W2) (hrel2 (N - 1 - pre.length) (by omega))) (by show _ < leastOf (fun n => RowRel (drawZ s k t a) J fp W N n (Value.int IntKind.u64 (rowZ (drawZ s k t a) pre.length)) wr); omega)
    · gi_wp2
      go_end0
      exact ⟨⟨_, rfl⟩, _, fp2, (Hfw.out.trans hfw2).wider (fun k hk => .inl hk), fun i hi => ((Hfw.out.trans hfw2).own i hi).1, .inr ⟨rowOk_snoc Hok.out, hjx2⟩⟩

set_option maxHeartbeats 400000 in
theorem row_any (s k t a : Int) (w : World) :
    Calls Tryz.prog 90 #[.agg #[.int .u64 s, .int .u64 k, .int .u64 t, .int .u64 a]] w fun e w' => e = .returned (.func (.func 130) #[] #[.pointer (some ⟨w.heap.size, 0, none⟩)]) ∧ w' = w.alloc (.cells #[.int .u64 s, .int .u64 k, .int .u64 t, .int .u64 a] 100) := by
  have hmf : ∀ (fn : Fn) (first cap : Array Value) (w : World), (Instr.makeFunc fn first cap).run Tryz.prog w = .ok (.func fn first cap) w := fun _ _ _ _ => rfl
  go_enter Tryz.func90, Tryz.ntmps90
  go_wp2
  go_ret
  exact ⟨rfl, rfl⟩
end Go.Proofs.YtcklfffeimnfeaaGreat

namespace Go.Proofs.YtcklfffeimnfeaaGreat
set_option linter.unusedSimpArgs false
set_option linter.unusedVariables false
set_option maxRecDepth 100000
open Go.RowKit

/-- the first of a row's numbers, from i on, that is at most b; at last the one behind f more -/
def findRow (d b : Int) : Nat → Nat → Int
  | 0, i => rowZ d i
  | f + 1, i => if rowZ d i ≤ b then rowZ d i else findRow d b f (i + 1)
theorem findRow_hit {d b : Int} {i : Nat} (h : rowZ d i ≤ b) {f : Nat} : findRow d b f i = rowZ d i := by
  cases f with
  | zero => rfl
  | succ f => rw [findRow, if_pos h]
def overZ (n : Int) : Int := 18446744073709551616 % n
def belowZ (d n : Int) : Int := if n = 0 then 0 else findRow d (18446744073709551615 - overZ n) 127 0 % n

theorem belowZ_lt (d n : Int) (h : 1 ≤ n) : 0 ≤ belowZ d n ∧ belowZ d n < n := by
  unfold belowZ
  rw [if_neg (by omega)]
  exact ⟨Int.emod_nonneg _ (by omega), Int.emod_lt_of_pos _ (by omega)⟩
theorem over_prog (n : Int) (h : 1 ≤ n) (h1 : n ≤ 18446744073709551615) : (IntKind.u64.wrap (-n)).tmod n = overZ n := by
  rw [Int.tmod_eq_emod_of_nonneg (u64_bd _).1, u64_mod]
  unfold overZ
  have e : -n % 18446744073709551616 = 18446744073709551616 - n := by omega
  rw [e, Int.sub_emod_right]
theorem over_bd (n : Int) (h : 1 ≤ n) : 0 ≤ overZ n ∧ overZ n < n := ⟨Int.emod_nonneg _ (by omega), Int.emod_lt_of_pos _ (by omega)⟩
theorem mixZ_bd (n : Int) : 0 ≤ mixZ n ∧ mixZ n ≤ 18446744073709551615 := by
  unfold mixZ
  generalize IntKind.u64.wrap (shx 134217728 (IntKind.u64.wrap (shx 1073741824 (IntKind.u64.wrap (n + 11400714819323198485)) * 13787848793156543929)) * 10723151780598845931) = c
  exact u64_bd _
theorem drawZ_bd (s k t a : Int) : 0 ≤ drawZ s k t a ∧ drawZ s k t a ≤ 18446744073709551615 := mixZ_bd _
theorem rowZ_bd (d : Int) (hd : 0 ≤ d ∧ d ≤ 18446744073709551615) (i : Nat) : 0 ≤ rowZ d i ∧ rowZ d i ≤ 18446744073709551615 := by
  cases i with
  | zero => exact hd
  | succ i => exact mixZ_bd _

attribute [local go_sem] Oper.semAt_some
set_option maxRecDepth 100000 in
set_option maxHeartbeats 1600000 in
theorem below_any (s k t a n : Int) (w : World) (hn0 : 0 ≤ n) (hn1 : n ≤ 18446744073709551615) :
    Calls Tryz.prog 51 #[.agg #[.int .u64 s, .int .u64 k, .int .u64 t, .int .u64 a], .int .u64 n] w fun e w' => e = .returned (.int .u64 (belowZ (drawZ s k t a) n)) ∧ Below w.heap.size w w' := by
  by_cases h0 : n = 0
  · subst h0
    refine (callsIn_wide (n := 0)).1 (callsIn_of_wp_marks Tryz.func51 rfl trivial ?_)
    simp only [Tryz.ntmps51, List.size_toArray, List.length_cons, List.length_nil, Nat.reduceAdd, Nat.reduceSub, Array.replicate_succ, Array.replicate_zero, List.push_toArray, List.append_toArray, List.nil_append, List.cons_append]
    gi_wp2
    refine ⟨_, ?_, rfl, ?_⟩
    · simp [results, Tryz.results51, go_sem]; rfl
    · exact ((ext_alloc w _).alloc (by simp) _).alloc (by simp; omega) _
  · have hne : (n == 0) = false := by simpa using h0
    have hpos : 1 ≤ n := by omega
    have ho := over_bd n hpos
    have hov := over_prog n hpos hn1
    have hd := drawZ_bd s k t a
    have hit := fun b => row_iter b s k t a 127
    have hrow := row_any s k t a
    generalize drawZ s k t a = d at *
    have hres : belowZ d n = findRow d (18446744073709551615 - overZ n) 127 0 % n := by rw [belowZ, if_neg h0]
    have Hres := Lib.hid hres
    have Hit := Lib.hid hit
    clear hres hit
    generalize overZ n = o at *
    refine (callsIn_wide (n := 0)).1 (callsIn_of_wp_marks Tryz.func51 rfl trivial ?_)
    simp only [Tryz.ntmps51, List.size_toArray, List.length_cons, List.length_nil, Nat.reduceAdd, Nat.reduceSub, Array.replicate_succ, Array.replicate_zero, List.push_toArray, List.append_toArray, List.nil_append, List.cons_append]
    gi_wp2_with (gi_at_call 90; refine (callsIn_wide.2 (hrow _)).mono ?_; rintro e w2 ⟨rfl, rfl⟩)
    refine wpIn_world fun w2 hw2 => ?_
    have t0 : ∀ i, w2.cell? ⟨w.heap.size + 1 + 1 + 1 + 1 + 1, i, none⟩ = #[Value.int IntKind.u64 s, Value.int IntKind.u64 k, Value.int IntKind.u64 t, Value.int IntKind.u64 a][i]? := by intro i; rw [hw2]; simp [go_sem]
    have c1 : w2.cell? ⟨w.heap.size + 1, 0, none⟩ = some (.int .u64 n) := by rw [hw2]; simp [go_sem, ↓IntWalk.iteOmega]
    have c2 : w2.cell? ⟨w.heap.size + 1 + 1, 0, none⟩ = some (.int .u64 0) := by rw [hw2]; simp [go_sem, ↓IntWalk.iteOmega]
    have f2 : w2.frozen? ⟨w.heap.size + 1 + 1, 0, none⟩ = false := by rw [hw2]; simp [go_sem, ↓IntWalk.iteOmega]
    have c3 : w2.cell? ⟨w.heap.size + 1 + 1 + 1, 0, none⟩ = some (.int .u64 o) := by rw [hw2]; simp [go_sem, ↓IntWalk.iteOmega]
    have c4 : w2.cell? ⟨w.heap.size + 1 + 1 + 1 + 1, 0, none⟩ = some (.int .i64 0) := by rw [hw2]; simp [go_sem, ↓IntWalk.iteOmega]
    have f4 : w2.frozen? ⟨w.heap.size + 1 + 1 + 1 + 1, 0, none⟩ = false := by rw [hw2]; simp [go_sem, ↓IntWalk.iteOmega]
    have hs2 : w2.heap.size = w.heap.size + 6 := by rw [hw2]; simp
    have hB2 : Below w.heap.size w w2 := by
      rw [hw2]
      exact (((((ext_alloc w _).alloc (by simp) _).alloc (by simp; omega) _).alloc (by simp; omega) _).alloc (by simp; omega) _).alloc (by simp; omega) _
    clear hw2 hov hrow
    have C1 := Lib.hid c1
    have C3 := Lib.hid c3
    have HB := Lib.hid hB2
    have HS := Lib.hid hs2
    clear c1 c3 hB2 hs2
    refine wpIn_range1 (gf := 130) (lb := #[.pointer (some ⟨w.heap.size + 1 + 1 + 1 + 1 + 1, 0, none⟩)]) rfl (enters_of Tryz.func130 (by kernel_rfl) rfl) (Hit.out (w.heap.size + 1 + 1 + 1 + 1 + 1)) (fun _ => rfl)
      (fun b => b = w.heap.size + 1 + 1 ∨ b = w.heap.size + 1 + 1 + 1 + 1) (fun b hb => ⟨by have := HS.out; omega, fun h => h⟩) (fun b h => h.elim)
      (fun pre W => rowOk d pre ∧ pre.length ≤ 127 ∧ (W.cell? ⟨w.heap.size + 1 + 1, 0, none⟩ = some (.int .u64 0) ∧ W.frozen? ⟨w.heap.size + 1 + 1, 0, none⟩ = false) ∧ (W.cell? ⟨w.heap.size + 1 + 1 + 1 + 1, 0, none⟩ = some (.int .i64 pre.length) ∧ W.frozen? ⟨w.heap.size + 1 + 1 + 1 + 1, 0, none⟩ = false)
        ∧ findRow d (18446744073709551615 - o) 127 0 = findRow d (18446744073709551615 - o) (127 - pre.length) pre.length)
      (fun c pre W => c = .ret ∧ W.cell? ⟨w.heap.size + 1 + 1, 0, none⟩ = some (.int .u64 (belowZ d n)))
      (fun pre A B h hs => ⟨h.1, h.2.1, ⟨(hs.cell (.inl rfl) 0).trans h.2.2.1.1, (hs.frozen (.inl rfl) 0).trans h.2.2.1.2⟩, ⟨(hs.cell (.inr rfl) 0).trans h.2.2.2.1.1, (hs.frozen (.inr rfl) 0).trans h.2.2.2.1.2⟩, h.2.2.2.2⟩)
      (fun c pre A B h hs => ⟨h.1, (hs.cell (.inl rfl) 0).trans h.2⟩)
      (fun pre A h => h.2.1)
      (fun W hb => ⟨(hb.cell (p := ⟨_, 0, none⟩) (by have := HS.out; simp; omega)).trans (t0 0), (hb.cell (p := ⟨_, 1, none⟩) (by have := HS.out; simp; omega)).trans (t0 1), (hb.cell (p := ⟨_, 2, none⟩) (by have := HS.out; simp; omega)).trans (t0 2), (hb.cell (p := ⟨_, 3, none⟩) (by have := HS.out; simp; omega)).trans (t0 3)⟩)
      ⟨rowOk_nil _, by simp, ⟨c2, f2⟩, ⟨c4, f4⟩, rfl⟩
      [(16, fun x => .int .u64 x), (7, fun x => .int .u64 x)] ?assign ?body ?done ?stop
    case assign =>
      intro l x W K hK
      gi_wp2
      exact hK
    case body =>
      rintro l pre x W W0 _ _ honly hok _ _ ⟨hpre, hlen, ⟨hc2, hf2⟩, ⟨hc4, hf4⟩, hfr⟩ _
      simp only [List.foldl_cons, List.foldl_nil, List.setIfInBounds_toArray, List.set_cons_zero, List.set_cons_succ]
      have hs2 := HS.out
      have hc1 : W.cell? ⟨w.heap.size + 1, 0, none⟩ = some (.int .u64 n) := (honly.cell (by omega) (by rintro ((h | h) | h) <;> omega) 0).trans C1.out
      have hc3 : W.cell? ⟨w.heap.size + 1 + 1 + 1, 0, none⟩ = some (.int .u64 o) := (honly.cell (by omega) (by rintro ((h | h) | h) <;> omega) 0).trans C3.out
      have hx : x = rowZ d pre.length := rowOk_last hpre hok
      subst hx
      have hbx := rowZ_bd d hd pre.length
      have Hok := Lib.hid hok
      have Hfr := Lib.hid hfr
      clear hok hpre honly c2 c4 f2 f4 t0 hfr hs2
      have hlow : 0 ≤ 18446744073709551615 - o ∧ 18446744073709551615 - o ≤ 18446744073709551615 := by omega
      by_cases hle : rowZ d pre.length ≤ 18446744073709551615 - o
      · have hdle : decide (rowZ d pre.length ≤ 18446744073709551615 - o) = true := by simpa using hle
        have hfin : belowZ d n = rowZ d pre.length % n := by rw [Hres.out, Hfr.out, findRow_hit hle]
        have Hfin := Lib.hid hfin
        clear hfin
        gi_wp2
        exact ⟨((Only.refl _ _).setCell (fun _ => .inr rfl) _).setCell (fun _ => .inl rfl) _, rfl, by rw [Hfin.out]; simp [cell_set_ite, hc2]⟩
      · have hdle : decide (rowZ d pre.length ≤ 18446744073709551615 - o) = false := by simpa using hle
        have hlo : 18446744073709551615 - o < rowZ d pre.length := by omega
        by_cases hlt : pre.length < 127
        · have hne8 : ((pre.length : Int) + 1 == 128) = false := by simp; omega
          have hfin : findRow d (18446744073709551615 - o) 127 0 = findRow d (18446744073709551615 - o) (127 - (pre.length + 1)) (pre.length + 1) := by
            rw [Hfr.out, show 127 - pre.length = (127 - (pre.length + 1)) + 1 from by omega, findRow, if_neg hle]
          have Hfin := Lib.hid hfin
          clear hfin
          gi_wp2
          exact ⟨(Only.refl _ _).setCell (fun _ => .inr rfl) _, Hok.out, by simp; omega, ⟨by simp [cell_set_ite, hc2], by simp [hf2]⟩, ⟨by simp [cell_set_ite, hc4], by simp [hf4]⟩, by rw [List.length_append, List.length_singleton]; exact Hfin.out⟩
        · have hlen7 : pre.length = 127 := by omega
          have hne8 : ((pre.length : Int) + 1 == 128) = true := by simp; omega
          have hfin : belowZ d n = rowZ d pre.length % n := by rw [Hres.out, Hfr.out, hlen7]; rfl
          have Hfin := Lib.hid hfin
          clear hfin hlen7
          gi_wp2
          exact ⟨((Only.refl _ _).setCell (fun _ => .inr rfl) _).setCell (fun _ => .inl rfl) _, rfl, by rw [Hfin.out]; simp [cell_set_ite, hc2]⟩
    case done =>
      rintro D xs W _ h
      exact h.elim
    case stop =>
      rintro D c xs W hD _ ⟨rfl, hc2⟩ honly hk
      have hs2 := HS.out
      dsimp only
      gi_wp2
      refine leaveM1 (v := .int .u64 (belowZ d n)) hk ?_ ⟨rfl, ?_⟩
      · have hD2 : w.heap.size + 1 + 1 ≠ D := by omega
        simp [results, Tryz.results51, go_sem, hD2, hc2]
      · exact ext_put (HB.out.trans (honly.below (by omega) (by rintro k hk ((h | h) | h) <;> omega))) (by omega)
end Go.Proofs.YtcklfffeimnfeaaGreat
