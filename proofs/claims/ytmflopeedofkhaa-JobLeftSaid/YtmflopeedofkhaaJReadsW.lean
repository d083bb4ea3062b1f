/- JobReads: the walk. -/
import Derived.Test.YtmflopeedofkhaaByAwk
import Derived.Test.YtmflopeedofkhaaByRefR
namespace Go.Proofs.Ytmflopeedofkhaa
set_option linter.unusedSimpArgs false
set_option linter.unusedVariables false
set_option maxRecDepth 100000
open Go.RowKit

theorem readJGo_cases : ∀ (ls : List W8) {j : JobD} (met : List W8) (n : Nat), InJ j → ((readJGo j met n ls).2.2 = 0 ∧ InJ (readJGo j met n ls).1 ∧ (readJGo j met n ls).1.src ≠ [] ∧ (readJGo j met n ls).2.1 = 0) ∨ ((readJGo j met n ls).2.2 ≠ 0 ∧ (readJGo j met n ls).1 = zeroJ)
  | [], j, met, n, h => by
    unfold readJGo
    by_cases hs : j.src = []
    · rw [if_pos hs]; exact .inr ⟨by simp, rfl⟩
    · rw [if_neg hs]; exact .inl ⟨rfl, h, hs, rfl⟩
  | s :: ls, j, met, n, h => by
    rw [readJGo]
    cases hw : words s with
    | nil => exact readJGo_cases ls met (n + 1) h
    | cons k ws =>
      simp only
      by_cases hk : k.head? = some 35
      · rw [if_pos hk]; exact readJGo_cases ls met (n + 1) h
      · rw [if_neg hk]
        by_cases h1 : (lineJ j met k ws).2 = 0
        · rw [if_neg (by simpa using h1)]
          exact readJGo_cases ls _ (n + 1) (lineJ_in h h1)
        · rw [if_pos h1]; exact .inr ⟨h1, rfl⟩
theorem readJ_cases (l : List UInt8) : ((readJ l).2.2 = 0 ∧ InJ (readJ l).1 ∧ (readJ l).1.src ≠ [] ∧ (readJ l).2.1 = 0) ∨ ((readJ l).2.2 ≠ 0 ∧ (readJ l).1 = zeroJ) := readJGo_cases _ _ _ inJ_begin
theorem readJ_few (l : List UInt8) : (readJ l).1.src.length ≤ 256 := by
  rcases readJ_cases l with ⟨_, h, _⟩ | ⟨_, h⟩
  · exact h.few
  · rw [h]; decide
set_option maxRecDepth 100000 in
set_option maxHeartbeats 6400000 in
theorem jobReads_walk (l : List UInt8) (ao : Option Addr) (cap : Nat) (w : World) (hrd : Rd w ao l.length (byteVals l)) (hcap : l.length ≤ cap) (hcm : cap ≤ maxLen) :
    Calls Try.prog 3 #[.slice ao l.length cap] w (RetB (.bool true) w) := by
  have HA := Lib.hid (fun W => awake19_any W)
  by_cases h1 : 3000 < l.length
  · have d1 : decide ((3000 : Int) < (l.length : Int)) = true := decide_eq_true (by omega)
    have d1' : decide (3000 < l.length) = true := decide_eq_true (by omega)
    clear hrd h1 hcap
    go_enter Try.func3, Try.ntmps3
    go_wp2_with (go_at_call 8; refine (HA.out _).mono ?_; rintro e w8 ⟨rfl, hB⟩; have HB := Lib.hid hB; clear hB)
    go_ret
    exact ⟨rfl, HB.out⟩
  have d1 : decide ((3000 : Int) < (l.length : Int)) = false := decide_eq_false (by omega)
  have d1' : decide (3000 < l.length) = false := decide_eq_false h1
  have HRd := Lib.hid (fun W (hB : Below w.heap.size w W) => jread_any l (by omega) ao cap W (hrd.ext hB) hcap hcm)
  have HRr := Lib.hid (fun W (hB : Below w.heap.size w W) => rread19_any l (by omega) ao cap W (hrd.ext hB))
  have hcs := readJ_cases l
  have hfw := readJ_few l
  generalize readJ l = r at *
  obtain ⟨j, n, e⟩ := r
  simp only at hcs hfw
  have HSm := Lib.hid (fun so so' sc sc' W h1 h2 => rsame19_any j (by omega) so so' sc sc' W h1 h2)
  have hnl : l.length ≤ 3000 := by omega
  clear hrd h1 hcap hcm hfw
  by_cases he : e = 0
  · subst he
    obtain ⟨_, hin, hsr, hn⟩ := hcs.resolve_right (fun h => h.1 rfl)
    have HMy := Lib.hid (fun ao cap W h => (show Calls Try.prog 12 #[.agg (jobCs j ao cap)] W (fun e w' => e = .returned (.bool true) ∧ Below W.heap.size W w') from inJ_may hin hsr ▸ may_any j hin.ok ao cap W h))
    clear hcs hin hsr hn
    go_enter Try.func3, Try.ntmps3
    go_upto_region 5 with (first
      | (go_at_call 9; (with_reducible refine (HRd.out _ (Below.refl _ _)).mono ?_); rintro e w1 ⟨so, sc, rfl, hx, hy⟩; have HS1 := Lib.hid hx; have B1 := Lib.hid hy; clear hx hy)
      | (refine wpList_store_row rfl 30 (.tmp 3) _ rfl rfl rfl (heap_alloc_new _ _) rfl (jb_info19 _ _ _) (jb_one19 _ _ _) ?_; intro w3 h3 o3; have hB3 : Below w1.heap.size w1 w3 := (ext_alloc _ _).trans (o3.below (by simp) (fun k hk e => by omega)); have R3 := Lib.hid h3; have B3 := Lib.hid (B1.out.trans (hB3.mono B1.out.size)); have HS3 := Lib.hid (HS1.out.ext hB3); clear h3 o3 hB3)
      | (go_at_call 10; (with_reducible refine (HRr.out _ B3.out).mono ?_); rintro e w4 ⟨so', sc', rfl, hx, hy⟩; have HS4 := Lib.hid hx; have B4 := Lib.hid hy; clear hx hy)
      | (refine wpList_store_row rfl 30 (.tmp 6) _ rfl rfl rfl (heap_alloc_new _ _) rfl (jb_info19 _ _ _) (jb_one19 _ _ _) ?_; intro w5 h5 o5; have hB5 : Below w4.heap.size w4 w5 := (ext_alloc _ _).trans (o5.below (by simp) (fun k hk e => by omega)); have R5 := Lib.hid h5; have R3b := Lib.hid ((hB5.block _ (Nat.lt_of_lt_of_le (blk_lt R3.out) B4.out.size)).trans ((B4.out.block _ (blk_lt R3.out)).trans R3.out)); have B5 := Lib.hid (B3.out.trans ((B4.out.trans (hB5.mono B4.out.size)).mono B3.out.size)); have HS5 := Lib.hid (HS4.out.ext hB5); have HS5b := Lib.hid ((HS3.out.ext B4.out).ext hB5); clear h5 o5 hB5))
    go_wp2_with (first
      | (refine wpList_load_row rfl 30 (.tmp 3) rfl w1.heap.size rfl 30 _ (0, 0) _ R3b.out Try.underlying30 rfl (jb_info19 _ _ _) ?_)
      | (refine wpList_load_row rfl 30 (.tmp 6) rfl w4.heap.size rfl 30 _ (0, 0) _ R5.out Try.underlying30 rfl (jb_info19 _ _ _) ?_)
      | (go_at_call 11; (with_reducible refine (HSm.out _ _ _ _ _ HS5b.out HS5.out).mono ?_); rintro e w6 ⟨rfl, hx⟩; have R6 := Lib.hid ((hx.block _ (blk_lt R3b.out)).trans R3b.out); have B6 := Lib.hid (B5.out.trans (hx.mono B5.out.size)); have HS6 := Lib.hid (HS5b.out.ext hx); clear hx)
      | (refine wpList_load_rowg rfl 30 (.tmp 3) rfl w1.heap.size rfl 30 _ (0, 0) _ R6.out Try.underlying30 rfl (jb_info19 _ _ _) ?_)
      | (go_at_call 12; (with_reducible refine (HMy.out _ _ _ HS6.out).mono ?_); rintro e w7 ⟨rfl, hx⟩; have B7 := Lib.hid (B6.out.trans (hx.mono B6.out.size)); clear hx)
      | (go_at_call 8; (with_reducible refine (HA.out _).mono ?_); rintro e w8 ⟨rfl, hx⟩; have B8 := Lib.hid hx; clear hx))
    go_ret
    exact ⟨rfl, B7.out.trans (B8.out.mono B7.out.size)⟩
  · obtain ⟨_, rfl⟩ := hcs.resolve_left (fun h => he h.1)
    have d2 : ((e : Int) != 0) = true := by simp; omega
    have d2' : (e != 0) = true := by simp; omega
    clear hcs he
    go_enter Try.func3, Try.ntmps3
    go_upto_region 5 with (first
      | (go_at_call 9; (with_reducible refine (HRd.out _ (Below.refl _ _)).mono ?_); rintro e w1 ⟨so, sc, rfl, hx, hy⟩; have HS1 := Lib.hid hx; have B1 := Lib.hid hy; clear hx hy)
      | (refine wpList_store_row rfl 30 (.tmp 3) _ rfl rfl rfl (heap_alloc_new _ _) rfl (jb_info19 _ _ _) (jb_one19 _ _ _) ?_; intro w3 h3 o3; have hB3 : Below w1.heap.size w1 w3 := (ext_alloc _ _).trans (o3.below (by simp) (fun k hk e => by omega)); have R3 := Lib.hid h3; have B3 := Lib.hid (B1.out.trans (hB3.mono B1.out.size)); have HS3 := Lib.hid (HS1.out.ext hB3); clear h3 o3 hB3)
      | (go_at_call 10; (with_reducible refine (HRr.out _ B3.out).mono ?_); rintro e w4 ⟨so', sc', rfl, hx, hy⟩; have HS4 := Lib.hid hx; have B4 := Lib.hid hy; clear hx hy)
      | (refine wpList_store_row rfl 30 (.tmp 6) _ rfl rfl rfl (heap_alloc_new _ _) rfl (jb_info19 _ _ _) (jb_one19 _ _ _) ?_; intro w5 h5 o5; have hB5 : Below w4.heap.size w4 w5 := (ext_alloc _ _).trans (o5.below (by simp) (fun k hk e => by omega)); have R5 := Lib.hid h5; have R3b := Lib.hid ((hB5.block _ (Nat.lt_of_lt_of_le (blk_lt R3.out) B4.out.size)).trans ((B4.out.block _ (blk_lt R3.out)).trans R3.out)); have B5 := Lib.hid (B3.out.trans ((B4.out.trans (hB5.mono B4.out.size)).mono B3.out.size)); have HS5 := Lib.hid (HS4.out.ext hB5); have HS5b := Lib.hid ((HS3.out.ext B4.out).ext hB5); clear h5 o5 hB5))
    go_wp2_with (first
      | (refine wpList_load_row rfl 30 (.tmp 3) rfl w1.heap.size rfl 30 _ (0, 0) _ R3b.out Try.underlying30 rfl (jb_info19 _ _ _) ?_)
      | (refine wpList_load_row rfl 30 (.tmp 6) rfl w4.heap.size rfl 30 _ (0, 0) _ R5.out Try.underlying30 rfl (jb_info19 _ _ _) ?_)
      | (go_at_call 11; (with_reducible refine (HSm.out _ _ _ _ _ HS5b.out HS5.out).mono ?_); rintro e w6 ⟨rfl, hx⟩; have R6 := Lib.hid ((hx.block _ (blk_lt R3b.out)).trans R3b.out); have B6 := Lib.hid (B5.out.trans (hx.mono B5.out.size)); have HS6 := Lib.hid (HS5b.out.ext hx); clear hx)
      | (refine wpList_load_rowg rfl 30 (.tmp 3) rfl w1.heap.size rfl 30 _ (0, 0) _ R6.out Try.underlying30 rfl (jb_info19 _ _ _) ?_)
      | fail "no"
      | (go_at_call 8; (with_reducible refine (HA.out _).mono ?_); rintro e w8 ⟨rfl, hx⟩; have B8 := Lib.hid hx; clear hx))
    go_ret
    exact ⟨rfl, B6.out.trans (B8.out.mono B6.out.size)⟩
end Go.Proofs.Ytmflopeedofkhaa
