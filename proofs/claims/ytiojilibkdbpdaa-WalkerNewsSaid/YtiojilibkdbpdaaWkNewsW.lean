/- WalkerNews: the walk. -/
import Derived.Test.YtiojilibkdbpdaaWkAwake
import Derived.Test.YtiojilibkdbpdaaJobOpen
namespace Go.Proofs.Ytiojilibkdbpdaa
set_option linter.unusedSimpArgs false
set_option linter.unusedVariables false
set_option maxRecDepth 100000
open Go.RowKit

theorem news_may {j : JobD} {id : Nat} (h : srcH j id = true) : mayW j (newJ j id) = true := by
  have hlt : id < walkersJ j := of_decide_eq_true h
  obtain ⟨hm, _, _⟩ := srcH_walks hlt
  have ht : 1 ≤ j.tries := by
    simp only [mayJ, secB, inB, Bool.and_eq_true, decide_eq_true_eq] at hm
    omega
  have e : (newJ j id).id = id := by unfold newJ; rw [if_pos hlt]
  have e1 : (newJ j id).step = 0 := by unfold newJ; rw [if_pos hlt]
  have e2 : (newJ j id).try_ = 0 := by unfold newJ; rw [if_pos hlt]
  unfold mayW
  rw [e, e1, e2, h]
  have : ¬ j.tries ≤ 0 := by omega
  simp [this]
theorem newJ_ok {j : JobD} (hj : JobOk j) {id : Nat} (hid : id < 4294967296) : WkOk (newJ j id) := by
  unfold newJ
  split
  · rename_i h
    have hk := srcN_lt h
    refine ⟨hid, Nat.lt_of_sub_eq_succ rfl, ?_, Nat.lt_of_sub_eq_succ rfl, Nat.lt_of_sub_eq_succ rfl, Nat.lt_of_sub_eq_succ rfl, Nat.lt_of_sub_eq_succ rfl⟩
    simp only
    rw [getElem!_pos j.src _ hk]
    exact hj.src _ (List.getElem_mem hk)
  · exact ⟨by decide, by decide, by decide, by decide, by decide, by decide, by decide⟩
theorem newV_lit {j : JobD} {id : Nat} {y : WkD} (hy : y = newJ j id) : newV j id = .tuple #[.agg #[.int .u32 (y.id : Nat), .int .u32 (y.step : Nat), .int .u32 (y.at_ : Nat), .int .u32 (y.prev : Nat), .int .u32 (y.next : Nat), .int .u32 (y.try_ : Nat), .int .u32 (y.state : Nat)], .bool (srcH j id)] := by subst hy; rfl
theorem mayw_new {j : JobD} (hj : JobOk j) {ao : Option Addr} {cap id : Nat} (hid : id < 4294967296) {W : World} (hl : j.src.length ≤ 1000000) (hsrc : Rd W ao j.src.length (u32s j.src)) {y : WkD} (hy : y = newJ j id) (he : srcH j id = true) :
    Calls Try.prog 17 #[.agg (jobCs j ao cap), .agg #[.int .u32 (y.id : Nat), .int .u32 (y.step : Nat), .int .u32 (y.at_ : Nat), .int .u32 (y.prev : Nat), .int .u32 (y.next : Nat), .int .u32 (y.try_ : Nat), .int .u32 (y.state : Nat)]] W (RetB (.bool true) W) := by
  have h := mayw_any j hj ao cap (newJ j id) (newJ_ok hj hid) W hl hsrc
  rw [news_may he, ← hy] at h
  exact h
set_option maxHeartbeats 6400000 in
theorem news_walk (j : JobD) (hj : JobOk j) (ao : Option Addr) (cap id : Nat) (hid : id < 4294967296) (w : World) (hsrc : Rd w ao j.src.length (u32s j.src)) :
    Calls Try.prog 3 #[.agg (jobCs j ao cap), .int .u32 (id : Nat)] w (RetB (.bool true) w) := by
  have HA := Lib.hid awake20_any
  obtain ⟨n, hn⟩ : ∃ n, n = j.src.length := ⟨_, rfl⟩
  by_cases hl : n ≤ 300
  · obtain ⟨W0, hW0⟩ : ∃ W0, W0 = w.alloc (.cells (jobCs j ao cap) 28) := ⟨_, rfl⟩
    have hz0 : W0.heap.size = w.heap.size + 1 := by rw [hW0]; simp
    have HJ := Lib.hid (fun W (h : Below W0.heap.size W0 W) => (h.block w.heap.size (by omega)).trans (show W0.heap[w.heap.size]? = some (.cells (jobCs j ao cap) 28 (0, 0)) by rw [hW0]; exact heap_alloc_new _ _))
    have HB0 := Lib.hid (show Below w.heap.size w W0 by rw [hW0]; exact ext_alloc _ _)
    have q4 : W0.cell? ⟨w.heap.size, 4, none⟩ = some (.slice ao n cap) := by rw [hW0, World.cell?_alloc_new, hn]; rfl
    have q4' : (w.alloc (.cells (jobCs j ao cap) 28)).cell? ⟨w.heap.size, 4, none⟩ = some (.slice ao n cap) := by rw [World.cell?_alloc_new, hn]; rfl
    have g1 : decide (300 < (n : Int)) = false := decide_eq_false (by omega)
    have g1' : decide (300 < n) = false := decide_eq_false (by omega)
    have hl' : j.src.length ≤ 1000000 := by omega
    have HR := Lib.hid (fun W (h : Below W0.heap.size W0 W) => hsrc.ext (HB0.out.trans (h.mono (by omega))))
    obtain ⟨y, hy⟩ : ∃ y, y = newJ j id := ⟨_, rfl⟩
    have HNj := Lib.hid (fun W h => (show Calls Try.prog 13 #[.agg (jobCs j ao cap), .int .u32 (id : Nat)] W (RetB (.tuple #[.agg #[.int .u32 (y.id : Nat), .int .u32 (y.step : Nat), .int .u32 (y.at_ : Nat), .int .u32 (y.prev : Nat), .int .u32 (y.next : Nat), .int .u32 (y.try_ : Nat), .int .u32 (y.state : Nat)], .bool (srcH j id)]) W) from (newV_lit hy).symm ▸ jnew_any j hj ao cap id hid W hl' (HR.out W h)))
    have HNr := Lib.hid (fun W h => (show Calls Try.prog 14 #[.agg (jobCs j ao cap), .int .u32 (id : Nat)] W (RetB (.tuple #[.agg #[.int .u32 (y.id : Nat), .int .u32 (y.step : Nat), .int .u32 (y.at_ : Nat), .int .u32 (y.prev : Nat), .int .u32 (y.next : Nat), .int .u32 (y.try_ : Nat), .int .u32 (y.state : Nat)], .bool (srcH j id)]) W) from (newV_lit hy).symm ▸ rnew_any j hj ao cap id hid W hl' (HR.out W h)))
    have HSj := Lib.hid (fun W h => jsource_any j hj ao cap id hid W hl' (HR.out W h))
    have HSr := Lib.hid (fun W h => rsource_any j hj ao cap id hid W hl' (HR.out W h))
    have HMy := Lib.hid (fun W h (he : srcH j id = true) => mayw_new (cap := cap) hj hid hl' (HR.out W h) hy he)
    have heq : ∀ W, (Op.equalIn 10000 31 (.agg #[.int .u32 (y.id : Nat), .int .u32 (y.step : Nat), .int .u32 (y.at_ : Nat), .int .u32 (y.prev : Nat), .int .u32 (y.next : Nat), .int .u32 (y.try_ : Nat), .int .u32 (y.state : Nat)]) (.agg #[.int .u32 (y.id : Nat), .int .u32 (y.step : Nat), .int .u32 (y.at_ : Nat), .int .u32 (y.prev : Nat), .int .u32 (y.next : Nat), .int .u32 (y.try_ : Nat), .int .u32 (y.state : Nat)])).run Try.prog W = .ok true W := fun W => (eq_walker y y W).trans (by simp)
    unfold sourceV at HSj HSr
    generalize srcN j id = sn at HSj HSr
    generalize hh : srcH j id = is at *
    have HC := Lib.hid (show (jobCs j ao cap)[4]? = some (.slice ao n cap) by rw [hn]; rfl)
    clear hy hn hl hl' hsrc hj q4 hh
    have q4 := q4'
    clear q4'
    have HI := Lib.hid (show (Try.prog.info? 28).map (·.size) = some (jobCs j ao cap).size by kernel_rfl)
    have HIw := Lib.hid (show (Try.prog.info? 31).map (·.size) = some (#[.int .u32 (y.id : Nat), .int .u32 (y.step : Nat), .int .u32 (y.at_ : Nat), .int .u32 (y.prev : Nat), .int .u32 (y.next : Nat), .int .u32 (y.try_ : Nat), .int .u32 (y.state : Nat)] : Array Value).size by kernel_rfl)
    generalize jobCs j ao cap = jc at *
    go_enter Try.func3, Try.ntmps3
    go_upto_region 3 with fail
    rw [← hW0]
    clear hW0
    go_upto_region 7 with (first
        | (refine wpList_load_row rfl _ _ rfl w.heap.size rfl 28 jc (0, 0) _  (HJ.out _ (Below.refl _ _)) Try.underlying28 rfl HI.out ?_)
        | (refine wpList_load_row rfl _ _ rfl w.heap.size rfl 28 jc (0, 0) _  (HJ.out _ (B3.out.alloc B3.out.size _)) Try.underlying28 rfl HI.out ?_)
        | (refine wpList_load_row rfl _ _ rfl w.heap.size rfl 28 jc (0, 0) _  (HJ.out _ (B4.out.alloc B4.out.size _)) Try.underlying28 rfl HI.out ?_)
        | (refine wpList_load_row rfl _ _ rfl w.heap.size rfl 28 jc (0, 0) _  (HJ.out _ B5.out) Try.underlying28 rfl HI.out ?_)
        | (go_at_call 13; refine (HNj.out _ (Below.refl _ _)).mono ?_; rintro e w3 ⟨rfl, hB⟩; have B3 := Lib.hid hB; clear hB)
        | (go_at_call 14; refine (HNr.out _ (B3.out.alloc B3.out.size _)).mono ?_; rintro e w4 ⟨rfl, hB⟩; have K34 := Lib.hid ((hB.block w3.heap.size (by simp)).trans (heap_alloc_new w3 _)); have Z34 := Lib.hid (show w3.heap.size < w4.heap.size by have := hB.size; simp at this; omega); have B4 := Lib.hid ((B3.out.alloc B3.out.size _).trans (hB.mono (by have := B3.out.size; simp; omega))); clear hB)
        | (go_at_call 15; refine (HSj.out _ (B4.out.alloc B4.out.size _)).mono ?_; rintro e w5 ⟨rfl, hB⟩; have K4a := Lib.hid ((hB.block w4.heap.size (by simp)).trans (heap_alloc_new w4 _)); have K3a := Lib.hid ((hB.block w3.heap.size (by have := Z34.out; simp; omega)).trans ((Below.heap_alloc w4 _ _ Z34.out).trans K34.out)); have Z5 := Lib.hid (show w4.heap.size < w5.heap.size by have := hB.size; simp at this; omega); have B5 := Lib.hid ((B4.out.alloc B4.out.size _).trans (hB.mono (by have := B4.out.size; simp; omega))); clear hB)
        | (go_at_call 16; refine (HSr.out _ B5.out).mono ?_; rintro e w6 ⟨rfl, hB⟩; have K4 := Lib.hid ((hB.block w4.heap.size Z5.out).trans K4a.out); have K3 := Lib.hid ((hB.block w3.heap.size (Nat.lt_trans Z34.out Z5.out)).trans K3a.out); have B6 := Lib.hid (B5.out.trans (hB.mono B5.out.size)); clear hB))
    clear HNj HNr HSj HSr HC q4
    cases is
    all_goals
      go_wp2_with (first
        | (refine wpList_load_row rfl _ _ rfl w3.heap.size rfl 31 #[.int .u32 (y.id : Nat), .int .u32 (y.step : Nat), .int .u32 (y.at_ : Nat), .int .u32 (y.prev : Nat), .int .u32 (y.next : Nat), .int .u32 (y.try_ : Nat), .int .u32 (y.state : Nat)] (0, 0) _ K3.out Try.underlying31 rfl HIw.out ?_)
        | (refine wpList_load_row rfl _ _ rfl w4.heap.size rfl 31 #[.int .u32 (y.id : Nat), .int .u32 (y.step : Nat), .int .u32 (y.at_ : Nat), .int .u32 (y.prev : Nat), .int .u32 (y.next : Nat), .int .u32 (y.try_ : Nat), .int .u32 (y.state : Nat)] (0, 0) _ K4.out Try.underlying31 rfl HIw.out ?_)
        | (refine wpList_load_rowg rfl _ _ rfl w.heap.size rfl 28 jc (0, 0) _  (HJ.out _ B6.out) Try.underlying28 rfl HI.out ?_)
        | (refine wpList_load_rowg rfl _ _ rfl w3.heap.size rfl 31 #[.int .u32 (y.id : Nat), .int .u32 (y.step : Nat), .int .u32 (y.at_ : Nat), .int .u32 (y.prev : Nat), .int .u32 (y.next : Nat), .int .u32 (y.try_ : Nat), .int .u32 (y.state : Nat)] (0, 0) _ K3.out Try.underlying31 rfl HIw.out ?_)
        | (go_at_call 17; refine (HMy.out _ B6.out (by first | trivial | rfl)).mono ?_; rintro e w7 ⟨rfl, hB⟩; have B7 := Lib.hid (B6.out.trans (hB.mono B6.out.size)); clear hB)
        | (go_at_call 12; refine (HA.out _).mono ?_; rintro e w8 ⟨rfl, hB⟩; first | (have B8 := Lib.hid (B7.out.trans (hB.mono B7.out.size))) | (have B8 := Lib.hid (B6.out.trans (hB.mono B6.out.size))); clear hB))
      go_ret
      exact ⟨rfl, HB0.out.trans (B8.out.mono (by omega))⟩
  · have g1 : decide (300 < (n : Int)) = true := decide_eq_true (by omega)
    have g1' : decide (300 < n) = true := decide_eq_true (by omega)
    have q4 : (w.alloc (.cells (jobCs j ao cap) 28)).cell? ⟨w.heap.size, 4, none⟩ = some (.slice ao n cap) := by rw [World.cell?_alloc_new, hn]; rfl
    clear hn hl
    go_enter Try.func3, Try.ntmps3
    go_wp2_with (go_at_call 12; refine (HA.out _).mono ?_; rintro e w1 ⟨rfl, hB1⟩; have HB1 := Lib.hid hB1; clear hB1)
    go_ret
    exact ⟨rfl, (ext_alloc w _).trans (HB1.out.mono (by simp))⟩
end Go.Proofs.Ytiojilibkdbpdaa
