/- Walkers of a job, their sources. -/
import Derived.Test.YtlgnpogmgpgdaaaJobRef
import Derived.Test.YtlgnpogmgpgdaaaRowW
namespace Go.Proofs.Ytlgnpogmgpgdaaa
set_option linter.unusedSimpArgs false
set_option linter.unusedVariables false
set_option maxRecDepth 100000
open Go.RowKit

theorem wrap32_small (p : Nat) (h : p ≤ 16777216) : IntKind.u32.wrap (p : Int) = (p : Int) := by simp [IntKind.wrap, IntKind.bits, IntKind.signed]; omega
def RetB (v : Value) (w : World) (e : Ending) (w' : World) : Prop := e = .returned v ∧ Below w.heap.size w w'
def walkV (j : JobD) : Value := .int .u32 (walkersJ j : Nat)
set_option maxHeartbeats 1600000 in
theorem jwalkers_any (j : JobD) (hj : JobOk j) (ao : Option Addr) (cap : Nat) (w : World) (hl : j.src.length ≤ 1000000) (hsrc : Rd w ao j.src.length (u32s j.src)) :
    Calls Try.prog 63 #[.agg (jobCs j ao cap)] w (RetB (walkV j) w) := by
  have HM := Lib.hid (fun W (h : Below w.heap.size w W) => may_any j hj ao cap W (hsrc.ext h))
  have hk := hj.walks
  have HLe := Lib.hid (walkersJ_le (j := j))
  clear hj hsrc
  cases hm : mayJ j with
  | false =>
    have hv : walkV j = .int .u32 0 := by simp [walkV, walkersJ, hm]
    rw [hm] at HM
    clear hm
    go_enter Try.func63, Try.ntmps63
    go_wp2_with (first | (refine wpList_load_row rfl _ _ rfl w.heap.size rfl 28 (jobCs j ao cap) (0, 0) _ (heap_alloc_new w _) Try.underlying28 rfl (show _ = some 15 by kernel_rfl) ?_) | (go_at_call 91; refine (HM.out _ (ext_alloc w _)).mono ?_; rintro e w1 ⟨rfl, hB1⟩; have HB1 := Lib.hid hB1; clear hB1))
    go_ret
    exact ⟨by rw [hv]; rfl, (ext_alloc w _).trans (HB1.out.mono (by simp))⟩
  | true =>
    have hp := HLe.out hm
    have hv : walkV j = .int .u32 (j.src.length * j.walks : Nat) := by simp [walkV, walkersJ, hm]
    rw [hm] at HM
    have Hv := Lib.hid hv
    clear hm HLe hv
    generalize hn : j.src.length = n at *
    have Hn := Lib.hid hn
    have hw1 : IntKind.u32.wrap (n : Int) = (n : Int) := by simp [IntKind.wrap, IntKind.bits, IntKind.signed]; omega
    have hw2 : IntKind.u32.wrap ((n : Int) * (j.walks : Int)) = (n : Int) * (j.walks : Int) := by
      have h0 : (n : Int) * (j.walks : Int) = ((n * j.walks : Nat) : Int) := by simp
      rw [h0]
      exact wrap32_small _ hp
    have HcS := Lib.hid (fun (w1 : World) (h : Below (w.alloc (.cells (jobCs j ao cap) 28)).heap.size (w.alloc (.cells (jobCs j ao cap) 28)) w1) (c : Nat) (v : Value) (hv : (jobCs j ao cap)[c]? = some v) => (show w1.cell? ⟨w.heap.size, c, none⟩ = some v from (bcell' (h.mono (by simp)) c).trans ((World.cell?_alloc_new _ _ _ _).trans hv)))
    have HC4 := Lib.hid (show (jobCs j ao cap)[4]? = some (.slice ao n cap) by rw [← hn]; rfl)
    clear hn
    go_enter Try.func63, Try.ntmps63
    go_wp2_with (first | (refine wpList_load_row rfl _ _ rfl w.heap.size rfl 28 (jobCs j ao cap) (0, 0) _ (heap_alloc_new w _) Try.underlying28 rfl (show _ = some 15 by kernel_rfl) ?_) | (go_at_call 91; refine (HM.out _ (ext_alloc w _)).mono ?_; rintro e w1 ⟨rfl, hB1⟩; have c3 : w1.cell? ⟨w.heap.size, 3, none⟩ = some (.int .u32 (j.walks : Nat)) := HcS.out w1 hB1 3 _ rfl; have c4 : w1.cell? ⟨w.heap.size, 4, none⟩ = some (.slice ao n cap) := HcS.out w1 hB1 4 _ HC4.out; have HB1 := Lib.hid hB1; clear hB1))
    go_ret
    refine ⟨?_, (ext_alloc w _).trans (HB1.out.mono (by simp))⟩
    rw [Hv.out]
    simp
set_option maxHeartbeats 1600000 in
theorem rwalkers_any (j : JobD) (hj : JobOk j) (ao : Option Addr) (cap : Nat) (w : World) (hl : j.src.length ≤ 1000000) (hsrc : Rd w ao j.src.length (u32s j.src)) :
    Calls Try.prog 86 #[.agg (jobCs j ao cap)] w (RetB (walkV j) w) := by
  have HM := Lib.hid (fun W (h : Below w.heap.size w W) => rmay_any j hj ao cap W hl (hsrc.ext h))
  have hk := hj.walks
  have HLe := Lib.hid (walkersJ_le (j := j))
  clear hj hsrc
  cases hm : mayJ j with
  | false =>
    have hv : walkV j = .int .u32 0 := by simp [walkV, walkersJ, hm]
    rw [hm] at HM
    clear hm
    go_enter Try.func86, Try.ntmps86
    go_wp2_with (first | (refine wpList_load_row rfl _ _ rfl w.heap.size rfl 28 (jobCs j ao cap) (0, 0) _ (heap_alloc_new w _) Try.underlying28 rfl (show _ = some 15 by kernel_rfl) ?_) | (go_at_call 18; refine (HM.out _ (ext_alloc w _)).mono ?_; rintro e w1 ⟨rfl, hB1⟩; have HB1 := Lib.hid hB1; clear hB1))
    go_ret
    exact ⟨by rw [hv]; rfl, (ext_alloc w _).trans (HB1.out.mono (by simp))⟩
  | true =>
    have hp := HLe.out hm
    have hv : walkV j = .int .u32 (j.src.length * j.walks : Nat) := by simp [walkV, walkersJ, hm]
    rw [hm] at HM
    have Hv := Lib.hid hv
    clear hm HLe hv
    generalize hn : j.src.length = n at *
    have Hn := Lib.hid hn
    have hw1 : IntKind.u32.wrap (n : Int) = (n : Int) := by simp [IntKind.wrap, IntKind.bits, IntKind.signed]; omega
    have hw2 : IntKind.u32.wrap ((n : Int) * (j.walks : Int)) = (n : Int) * (j.walks : Int) := by
      have h0 : (n : Int) * (j.walks : Int) = ((n * j.walks : Nat) : Int) := by simp
      rw [h0]
      exact wrap32_small _ hp
    have HcS := Lib.hid (fun (w1 : World) (h : Below (w.alloc (.cells (jobCs j ao cap) 28)).heap.size (w.alloc (.cells (jobCs j ao cap) 28)) w1) (c : Nat) (v : Value) (hv : (jobCs j ao cap)[c]? = some v) => (show w1.cell? ⟨w.heap.size, c, none⟩ = some v from (bcell' (h.mono (by simp)) c).trans ((World.cell?_alloc_new _ _ _ _).trans hv)))
    have HC4 := Lib.hid (show (jobCs j ao cap)[4]? = some (.slice ao n cap) by rw [← hn]; rfl)
    clear hn
    go_enter Try.func86, Try.ntmps86
    go_wp2_with (first | (refine wpList_load_row rfl _ _ rfl w.heap.size rfl 28 (jobCs j ao cap) (0, 0) _ (heap_alloc_new w _) Try.underlying28 rfl (show _ = some 15 by kernel_rfl) ?_) | (go_at_call 18; refine (HM.out _ (ext_alloc w _)).mono ?_; rintro e w1 ⟨rfl, hB1⟩; have c3 : w1.cell? ⟨w.heap.size, 3, none⟩ = some (.int .u32 (j.walks : Nat)) := HcS.out w1 hB1 3 _ rfl; have c4 : w1.cell? ⟨w.heap.size, 4, none⟩ = some (.slice ao n cap) := HcS.out w1 hB1 4 _ HC4.out; have HB1 := Lib.hid hB1; clear hB1))
    go_ret
    refine ⟨?_, (ext_alloc w _).trans (HB1.out.mono (by simp))⟩
    rw [Hv.out]
    simp

def srcH (j : JobD) (id : Nat) : Bool := decide (id < walkersJ j)
def srcN (j : JobD) (id : Nat) : Nat := if id < walkersJ j then id / j.walks else 0
theorem srcH_walks {j : JobD} {id : Nat} (h : id < walkersJ j) : mayJ j = true ∧ 0 < j.walks ∧ walkersJ j = j.src.length * j.walks := by
  unfold walkersJ at h ⊢
  cases hm : mayJ j with
  | false => rw [hm] at h; simp at h
  | true =>
    rw [hm] at h
    simp only [if_true] at h
    refine ⟨rfl, ?_, by simp⟩
    rcases Nat.eq_zero_or_pos j.walks with h0 | h0
    · rw [h0] at h; simp at h
    · exact h0
theorem srcN_lt {j : JobD} {id : Nat} (h : id < walkersJ j) : srcN j id < j.src.length := by
  obtain ⟨_, h1, h2⟩ := srcH_walks h
  unfold srcN
  rw [if_pos h]
  rw [h2] at h
  exact (Nat.div_lt_iff_lt_mul h1).2 h
def sourceV (j : JobD) (id : Nat) : Value := .tuple #[.int .i64 (srcN j id : Nat), .bool (srcH j id)]
theorem wrap32_div (a b : Nat) (h : a < 4294967296) : IntKind.u32.wrap ((a / b : Nat) : Int) = ((a / b : Nat) : Int) := by
  have := Nat.div_le_self a b
  generalize a / b = q at *
  simp [IntKind.wrap, IntKind.bits, IntKind.signed]; omega
set_option maxHeartbeats 1600000 in
theorem jsource_any (j : JobD) (hj : JobOk j) (ao : Option Addr) (cap id : Nat) (hid : id < 4294967296) (w : World) (hl : j.src.length ≤ 1000000) (hsrc : Rd w ao j.src.length (u32s j.src)) :
    Calls Try.prog 47 #[.agg (jobCs j ao cap), .int .u32 (id : Nat)] w (RetB (sourceV j id) w) := by
  have HM := Lib.hid (fun W (h : Below w.heap.size w W) => jwalkers_any j hj ao cap W hl (hsrc.ext h))
  unfold walkV at HM
  have HcS := Lib.hid (fun (w1 : World) (h : Below (w.alloc (.cells (jobCs j ao cap) 28)).heap.size (w.alloc (.cells (jobCs j ao cap) 28)) w1) (c : Nat) (v : Value) (hv : (jobCs j ao cap)[c]? = some v) => (show w1.cell? ⟨w.heap.size, c, none⟩ = some v from (bcell' (h.mono (by simp)) c).trans ((World.cell?_alloc_new _ _ _ _).trans hv)))
  clear hj hsrc
  by_cases hlt : id < walkersJ j
  · obtain ⟨_, hw0, _⟩ := srcH_walks hlt
    have hv : sourceV j id = .tuple #[.int .i64 (id / j.walks : Nat), .bool true] := by simp [sourceV, srcN, srcH, hlt]
    have Hv := Lib.hid hv
    have g1 : decide ((walkersJ j : Int) ≤ (id : Int)) = false := decide_eq_false (by omega)
    have g1' : decide (walkersJ j ≤ id) = false := decide_eq_false (by omega)
    have hq : Int.tdiv (id : Int) (j.walks : Int) = ((id / j.walks : Nat) : Int) := (Int.ofNat_tdiv id j.walks).symm
    have hq1 := wrap32_div id j.walks hid
    have hq2 : id / j.walks ≤ id := Nat.div_le_self _ _
    generalize walkersJ j = wk at HM g1 g1'
    clear hv hlt
    go_enter Try.func47, Try.ntmps47
    go_wp2_with (first
      | (refine wpList_load_row rfl _ _ rfl w.heap.size rfl 28 (jobCs j ao cap) (0, 0) _ (heap_alloc_new w _) Try.underlying28 rfl (show _ = some 15 by kernel_rfl) ?_)
      | (go_at_call 63; refine (HM.out _ (ext_alloc w _)).mono ?_; rintro e w1 ⟨rfl, hB1⟩; have c3 : w1.cell? ⟨w.heap.size, 3, none⟩ = some (.int .u32 (j.walks : Nat)) := HcS.out w1 hB1 3 _ rfl; have HB1 := Lib.hid hB1; clear hB1))
    refine bodyPost_ret (results_tmp2 rfl _ _ _) rfl ⟨?_, (ext_alloc w _).trans (HB1.out.mono (by simp))⟩
    rw [Hv.out]
    have h0 : ((id : Int) / (j.walks : Int) % 4294967296) = ((id / j.walks : Nat) : Int) := by
      rw [← Int.natCast_ediv]
      clear hq1 hq
      generalize id / j.walks = q at hq2 ⊢
      omega
    rw [← h0]
    rfl
  · have hv : sourceV j id = .tuple #[.int .i64 (0 : Int), .bool false] := by simp [sourceV, srcN, srcH, hlt]
    have Hv := Lib.hid hv
    have g1 : decide ((walkersJ j : Int) ≤ (id : Int)) = true := decide_eq_true (by omega)
    have g1' : decide (walkersJ j ≤ id) = true := decide_eq_true (by omega)
    generalize walkersJ j = wk at HM g1 g1'
    clear hv hlt
    go_enter Try.func47, Try.ntmps47
    go_wp2_with (first
      | (refine wpList_load_row rfl _ _ rfl w.heap.size rfl 28 (jobCs j ao cap) (0, 0) _ (heap_alloc_new w _) Try.underlying28 rfl (show _ = some 15 by kernel_rfl) ?_)
      | (go_at_call 63; refine (HM.out _ (ext_alloc w _)).mono ?_; rintro e w1 ⟨rfl, hB1⟩; have HB1 := Lib.hid hB1; clear hB1))
    refine bodyPost_ret (results_tmp2 rfl _ _ _) rfl ⟨?_, (ext_alloc w _).trans (HB1.out.mono (by simp))⟩
    rw [Hv.out]; rfl
set_option maxHeartbeats 1600000 in
theorem rsource_any (j : JobD) (hj : JobOk j) (ao : Option Addr) (cap id : Nat) (hid : id < 4294967296) (w : World) (hl : j.src.length ≤ 1000000) (hsrc : Rd w ao j.src.length (u32s j.src)) :
    Calls Try.prog 55 #[.agg (jobCs j ao cap), .int .u32 (id : Nat)] w (RetB (sourceV j id) w) := by
  have HM := Lib.hid (fun W (h : Below w.heap.size w W) => rwalkers_any j hj ao cap W hl (hsrc.ext h))
  unfold walkV at HM
  have HcS := Lib.hid (fun (w1 : World) (h : Below (w.alloc (.cells (jobCs j ao cap) 28)).heap.size (w.alloc (.cells (jobCs j ao cap) 28)) w1) (c : Nat) (v : Value) (hv : (jobCs j ao cap)[c]? = some v) => (show w1.cell? ⟨w.heap.size, c, none⟩ = some v from (bcell' (h.mono (by simp)) c).trans ((World.cell?_alloc_new _ _ _ _).trans hv)))
  clear hj hsrc
  by_cases hlt : id < walkersJ j
  · obtain ⟨_, hw0, _⟩ := srcH_walks hlt
    have hv : sourceV j id = .tuple #[.int .i64 (id / j.walks : Nat), .bool true] := by simp [sourceV, srcN, srcH, hlt]
    have Hv := Lib.hid hv
    have g1 : decide ((walkersJ j : Int) ≤ (id : Int)) = false := decide_eq_false (by omega)
    have g1' : decide (walkersJ j ≤ id) = false := decide_eq_false (by omega)
    have hq : Int.tdiv (id : Int) (j.walks : Int) = ((id / j.walks : Nat) : Int) := (Int.ofNat_tdiv id j.walks).symm
    have hq1 := wrap32_div id j.walks hid
    have hq2 : id / j.walks ≤ id := Nat.div_le_self _ _
    generalize walkersJ j = wk at HM g1 g1'
    clear hv hlt
    go_enter Try.func55, Try.ntmps55
    go_wp2_with (first
      | (refine wpList_load_row rfl _ _ rfl w.heap.size rfl 28 (jobCs j ao cap) (0, 0) _ (heap_alloc_new w _) Try.underlying28 rfl (show _ = some 15 by kernel_rfl) ?_)
      | (go_at_call 86; refine (HM.out _ (ext_alloc w _)).mono ?_; rintro e w1 ⟨rfl, hB1⟩; have c3 : w1.cell? ⟨w.heap.size, 3, none⟩ = some (.int .u32 (j.walks : Nat)) := HcS.out w1 hB1 3 _ rfl; have HB1 := Lib.hid hB1; clear hB1))
    refine bodyPost_ret (results_tmp2 rfl _ _ _) rfl ⟨?_, (ext_alloc w _).trans (HB1.out.mono (by simp))⟩
    rw [Hv.out]
    have h0 : ((id : Int) / (j.walks : Int) % 4294967296) = ((id / j.walks : Nat) : Int) := by
      rw [← Int.natCast_ediv]
      clear hq1 hq
      generalize id / j.walks = q at hq2 ⊢
      omega
    rw [← h0]
    rfl
  · have hv : sourceV j id = .tuple #[.int .i64 (0 : Int), .bool false] := by simp [sourceV, srcN, srcH, hlt]
    have Hv := Lib.hid hv
    have g1 : decide ((walkersJ j : Int) ≤ (id : Int)) = true := decide_eq_true (by omega)
    have g1' : decide (walkersJ j ≤ id) = true := decide_eq_true (by omega)
    generalize walkersJ j = wk at HM g1 g1'
    clear hv hlt
    go_enter Try.func55, Try.ntmps55
    go_wp2_with (first
      | (refine wpList_load_row rfl _ _ rfl w.heap.size rfl 28 (jobCs j ao cap) (0, 0) _ (heap_alloc_new w _) Try.underlying28 rfl (show _ = some 15 by kernel_rfl) ?_)
      | (go_at_call 86; refine (HM.out _ (ext_alloc w _)).mono ?_; rintro e w1 ⟨rfl, hB1⟩; have HB1 := Lib.hid hB1; clear hB1))
    refine bodyPost_ret (results_tmp2 rfl _ _ _) rfl ⟨?_, (ext_alloc w _).trans (HB1.out.mono (by simp))⟩
    rw [Hv.out]; rfl

/-- a walker -/
structure WkD where
  id : Nat
  step : Nat
  at_ : Nat
  prev : Nat
  next : Nat
  try_ : Nat
  state : Nat
deriving DecidableEq
structure WkOk (x : WkD) : Prop where
  id : x.id < 4294967296
  step : x.step < 4294967296
  at_ : x.at_ < 4294967296
  prev : x.prev < 4294967296
  next : x.next < 4294967296
  try_ : x.try_ < 4294967296
  state : x.state < 4294967296
def wkCs (x : WkD) : Array Value := #[.int .u32 (x.id : Nat), .int .u32 (x.step : Nat), .int .u32 (x.at_ : Nat), .int .u32 (x.prev : Nat), .int .u32 (x.next : Nat), .int .u32 (x.try_ : Nat), .int .u32 (x.state : Nat)]
def noWk : WkD := ⟨0, 0, 0, 0, 0, 0, 0⟩
def newJ (j : JobD) (id : Nat) : WkD := if id < walkersJ j then ⟨id, 0, j.src[srcN j id]!, 0, 0, 0, 0⟩ else noWk
def newV (j : JobD) (id : Nat) : Value := .tuple #[.agg (wkCs (newJ j id)), .bool (srcH j id)]
set_option maxHeartbeats 1600000 in
theorem jnew_any (j : JobD) (hj : JobOk j) (ao : Option Addr) (cap id : Nat) (hid : id < 4294967296) (w : World) (hl : j.src.length ≤ 1000000) (hsrc : Rd w ao j.src.length (u32s j.src)) :
    Calls Try.prog 75 #[.agg (jobCs j ao cap), .int .u32 (id : Nat)] w (RetB (newV j id) w) := by
  have HM := Lib.hid (fun W (h : Below w.heap.size w W) => jsource_any j hj ao cap id hid W hl (hsrc.ext h))
  by_cases hlt : id < walkersJ j
  · have hk := srcN_lt hlt
    obtain ⟨b, off, rfl, hb, hc⟩ := hsrc.pos (by omega)
    have hc := hc _ hk
    simp only [u32s, List.getElem?_map, List.getElem?_eq_getElem hk, Option.map_some] at hc
    have hv : sourceV j id = .tuple #[.int .i64 (srcN j id : Nat), .bool true] := by simp [sourceV, srcH, hlt]
    rw [hv] at HM
    have hv2 : newV j id = .tuple #[.agg (wkCs ⟨id, 0, j.src[srcN j id], 0, 0, 0, 0⟩), .bool true] := by
      simp only [newV, newJ, srcH, if_pos hlt, decide_eq_true hlt]
      rw [getElem!_pos j.src _ hk]
    have Hv := Lib.hid hv2
    clear hv2
    generalize j.src[srcN j id] = y at hc Hv
    generalize srcN j id = q at HM hk hc
    have hir : (q : Int) < (j.src.length : Int) := by omega
    generalize hn : j.src.length = n at hk hir
    have HC4 := Lib.hid (show (jobCs j (some ⟨b, off, none⟩) cap)[4]? = some (.slice (some ⟨b, off, none⟩) n cap) by rw [← hn]; rfl)
    have hB2 : Below w.heap.size w ((w.alloc (.cells (jobCs j (some ⟨b, off, none⟩) cap) 28)).alloc (.cells (wkCs noWk) 30)) := (ext_alloc w _).alloc (by simp) _
    have HcS := Lib.hid (fun (w1 : World) (h : Below (w.heap.size + 2) ((w.alloc (.cells (jobCs j (some ⟨b, off, none⟩) cap) 28)).alloc (.cells (wkCs noWk) 30)) w1) => (show w1.cell? ⟨w.heap.size, 4, none⟩ = some (.slice (some ⟨b, off, none⟩) n cap) ∧ w1.cell? ⟨b, off + q, none⟩ = some (.int .u32 (y : Nat)) from ⟨(World.cell?_of_block (h.block w.heap.size (by omega))).trans ((World.cell?_of_block (w := w.alloc _) (Below.heap_alloc _ _ _ (by simp))).trans ((World.cell?_alloc_new _ _ _ _).trans HC4.out)), ((World.cell?_of_block (h.block b (by omega))).trans (World.cell?_of_block (w := w) (hB2.block b hb))).trans hc⟩))
    have HB2 := Lib.hid hB2
    clear hv hlt hj hsrc hn hB2
    go_enter Try.func75, Try.ntmps75
    go_wp2_with (first
      | (refine wpList_load_row rfl _ _ rfl w.heap.size rfl 28 (jobCs j (some ⟨b, off, none⟩) cap) (0, 0) _ ((Below.heap_alloc _ _ _ (by simp)).trans (heap_alloc_new w _)) Try.underlying28 rfl (show _ = some 15 by kernel_rfl) ?_)
      | (go_at_call 47; refine (HM.out _ ((ext_alloc w _).alloc (by simp) _)).mono ?_; rintro e w1 ⟨rfl, hB1⟩; obtain ⟨c4, cq⟩ := HcS.out w1 (hB1.mono (by simp)); have hg1 : w1.heap[w.heap.size + 1]? = some (.cells (wkCs noWk) 30 (0, 0)) := (hB1.block _ (by simp)).trans (heap_alloc2_new _ _ _); have Hg1 := Lib.hid hg1; have HB1 := Lib.hid hB1; clear hB1 hg1)
      | (refine wpList_store_row rfl _ _ _ rfl rfl rfl Hg1.out rfl (show _ = some 7 by kernel_rfl) (by simp [Value.oneCell']) ?_; intro w3 hg3 ho3; have Hg3 := Lib.hid hg3; have Ho3 := Lib.hid ho3; clear hg3 ho3))
    refine bodyPost_ret (results_row_tmp rfl _ _ (w.heap.size + 1) 30 _ (0, 0) _ rfl Hg3.out Try.underlying30 rfl (show _ = some 7 by kernel_rfl)) rfl ⟨?_, ?_⟩
    · rw [Hv.out]; rfl
    · exact (HB2.out.trans (HB1.out.mono (by simp; omega))).trans (Ho3.out.below (by have := HB1.out.size; simp at this; omega) (fun k hk e => by omega))
  · have hv : sourceV j id = .tuple #[.int .i64 (srcN j id : Nat), .bool false] := by simp [sourceV, srcH, hlt]
    rw [hv] at HM
    have hv2 : newV j id = .tuple #[.agg (wkCs noWk), .bool false] := by
      simp only [newV, newJ, srcH, if_neg hlt, decide_eq_false hlt]
    have Hv := Lib.hid hv2
    have HB2 := Lib.hid (show Below w.heap.size w ((w.alloc (.cells (jobCs j ao cap) 28)).alloc (.cells (wkCs noWk) 30)) from (ext_alloc w _).alloc (by simp) _)
    generalize srcN j id = q at HM
    clear hv hv2 hlt hj hsrc
    go_enter Try.func75, Try.ntmps75
    go_wp2_with (first
      | (refine wpList_load_row rfl _ _ rfl w.heap.size rfl 28 (jobCs j ao cap) (0, 0) _ ((Below.heap_alloc _ _ _ (by simp)).trans (heap_alloc_new w _)) Try.underlying28 rfl (show _ = some 15 by kernel_rfl) ?_)
      | (go_at_call 47; refine (HM.out _ ((ext_alloc w _).alloc (by simp) _)).mono ?_; rintro e w1 ⟨rfl, hB1⟩; have hg1 : w1.heap[w.heap.size + 1]? = some (.cells (wkCs noWk) 30 (0, 0)) := (hB1.block _ (by simp)).trans (heap_alloc2_new _ _ _); have Hg1 := Lib.hid hg1; have HB1 := Lib.hid hB1; clear hB1 hg1)
      | (refine wpList_store_row rfl _ _ _ rfl rfl rfl Hg1.out rfl (show _ = some 7 by kernel_rfl) (by simp [Value.oneCell']) ?_; intro w3 hg3 ho3; have Hg3 := Lib.hid hg3; have Ho3 := Lib.hid ho3; clear hg3 ho3))
    refine bodyPost_ret (results_row_tmp rfl _ _ (w.heap.size + 1) 30 _ (0, 0) _ rfl Hg3.out Try.underlying30 rfl (show _ = some 7 by kernel_rfl)) rfl ⟨?_, ?_⟩
    · rw [Hv.out]; rfl
    · exact (HB2.out.trans (HB1.out.mono (by simp; omega))).trans (Ho3.out.below (by have := HB1.out.size; simp at this; omega) (fun k hk e => by omega))
set_option maxHeartbeats 1600000 in
theorem rnew_any (j : JobD) (hj : JobOk j) (ao : Option Addr) (cap id : Nat) (hid : id < 4294967296) (w : World) (hl : j.src.length ≤ 1000000) (hsrc : Rd w ao j.src.length (u32s j.src)) :
    Calls Try.prog 20 #[.agg (jobCs j ao cap), .int .u32 (id : Nat)] w (RetB (newV j id) w) := by
  have HM := Lib.hid (fun W (h : Below w.heap.size w W) => rsource_any j hj ao cap id hid W hl (hsrc.ext h))
  by_cases hlt : id < walkersJ j
  · have hk := srcN_lt hlt
    obtain ⟨b, off, rfl, hb, hc⟩ := hsrc.pos (by omega)
    have hc := hc _ hk
    simp only [u32s, List.getElem?_map, List.getElem?_eq_getElem hk, Option.map_some] at hc
    have hv : sourceV j id = .tuple #[.int .i64 (srcN j id : Nat), .bool true] := by simp [sourceV, srcH, hlt]
    rw [hv] at HM
    have hv2 : newV j id = .tuple #[.agg (wkCs ⟨id, 0, j.src[srcN j id], 0, 0, 0, 0⟩), .bool true] := by
      simp only [newV, newJ, srcH, if_pos hlt, decide_eq_true hlt]
      rw [getElem!_pos j.src _ hk]
    have Hv := Lib.hid hv2
    clear hv2
    generalize j.src[srcN j id] = y at hc Hv
    generalize srcN j id = q at HM hk hc
    have hir : (q : Int) < (j.src.length : Int) := by omega
    generalize hn : j.src.length = n at hk hir
    have HC4 := Lib.hid (show (jobCs j (some ⟨b, off, none⟩) cap)[4]? = some (.slice (some ⟨b, off, none⟩) n cap) by rw [← hn]; rfl)
    have hB2 : Below w.heap.size w ((w.alloc (.cells (jobCs j (some ⟨b, off, none⟩) cap) 28)).alloc (.cells (wkCs noWk) 30)) := (ext_alloc w _).alloc (by simp) _
    have HcS := Lib.hid (fun (w1 : World) (h : Below (w.heap.size + 2) ((w.alloc (.cells (jobCs j (some ⟨b, off, none⟩) cap) 28)).alloc (.cells (wkCs noWk) 30)) w1) => (show w1.cell? ⟨w.heap.size, 4, none⟩ = some (.slice (some ⟨b, off, none⟩) n cap) ∧ w1.cell? ⟨b, off + q, none⟩ = some (.int .u32 (y : Nat)) from ⟨(World.cell?_of_block (h.block w.heap.size (by omega))).trans ((World.cell?_of_block (w := w.alloc _) (Below.heap_alloc _ _ _ (by simp))).trans ((World.cell?_alloc_new _ _ _ _).trans HC4.out)), ((World.cell?_of_block (h.block b (by omega))).trans (World.cell?_of_block (w := w) (hB2.block b hb))).trans hc⟩))
    have HB2 := Lib.hid hB2
    clear hv hlt hj hsrc hn hB2
    go_enter Try.func20, Try.ntmps20
    go_wp2_with (first
      | (refine wpList_load_row rfl _ _ rfl w.heap.size rfl 28 (jobCs j (some ⟨b, off, none⟩) cap) (0, 0) _ ((Below.heap_alloc _ _ _ (by simp)).trans (heap_alloc_new w _)) Try.underlying28 rfl (show _ = some 15 by kernel_rfl) ?_)
      | (go_at_call 55; refine (HM.out _ ((ext_alloc w _).alloc (by simp) _)).mono ?_; rintro e w1 ⟨rfl, hB1⟩; obtain ⟨c4, cq⟩ := HcS.out w1 (hB1.mono (by simp)); have hg1 : w1.heap[w.heap.size + 1]? = some (.cells (wkCs noWk) 30 (0, 0)) := (hB1.block _ (by simp)).trans (heap_alloc2_new _ _ _); have Hg1 := Lib.hid hg1; have HB1 := Lib.hid hB1; clear hB1 hg1)
      | (refine wpList_store_row rfl _ _ _ rfl rfl rfl Hg1.out rfl (show _ = some 7 by kernel_rfl) (by simp [Value.oneCell']) ?_; intro w3 hg3 ho3; have Hg3 := Lib.hid hg3; have Ho3 := Lib.hid ho3; clear hg3 ho3))
    refine bodyPost_ret (results_row_tmp rfl _ _ (w.heap.size + 1) 30 _ (0, 0) _ rfl Hg3.out Try.underlying30 rfl (show _ = some 7 by kernel_rfl)) rfl ⟨?_, ?_⟩
    · rw [Hv.out]; rfl
    · exact (HB2.out.trans (HB1.out.mono (by simp; omega))).trans (Ho3.out.below (by have := HB1.out.size; simp at this; omega) (fun k hk e => by omega))
  · have hv : sourceV j id = .tuple #[.int .i64 (srcN j id : Nat), .bool false] := by simp [sourceV, srcH, hlt]
    rw [hv] at HM
    have hv2 : newV j id = .tuple #[.agg (wkCs noWk), .bool false] := by
      simp only [newV, newJ, srcH, if_neg hlt, decide_eq_false hlt]
    have Hv := Lib.hid hv2
    have HB2 := Lib.hid (show Below w.heap.size w ((w.alloc (.cells (jobCs j ao cap) 28)).alloc (.cells (wkCs noWk) 30)) from (ext_alloc w _).alloc (by simp) _)
    generalize srcN j id = q at HM
    clear hv hv2 hlt hj hsrc
    go_enter Try.func20, Try.ntmps20
    go_wp2_with (first
      | (refine wpList_load_row rfl _ _ rfl w.heap.size rfl 28 (jobCs j ao cap) (0, 0) _ ((Below.heap_alloc _ _ _ (by simp)).trans (heap_alloc_new w _)) Try.underlying28 rfl (show _ = some 15 by kernel_rfl) ?_)
      | (go_at_call 55; refine (HM.out _ ((ext_alloc w _).alloc (by simp) _)).mono ?_; rintro e w1 ⟨rfl, hB1⟩; have hg1 : w1.heap[w.heap.size + 1]? = some (.cells (wkCs noWk) 30 (0, 0)) := (hB1.block _ (by simp)).trans (heap_alloc2_new _ _ _); have Hg1 := Lib.hid hg1; have HB1 := Lib.hid hB1; clear hB1 hg1)
      | (refine wpList_store_row rfl _ _ _ rfl rfl rfl Hg1.out rfl (show _ = some 7 by kernel_rfl) (by simp [Value.oneCell']) ?_; intro w3 hg3 ho3; have Hg3 := Lib.hid hg3; have Ho3 := Lib.hid ho3; clear hg3 ho3))
    refine bodyPost_ret (results_row_tmp rfl _ _ (w.heap.size + 1) 30 _ (0, 0) _ rfl Hg3.out Try.underlying30 rfl (show _ = some 7 by kernel_rfl)) rfl ⟨?_, ?_⟩
    · rw [Hv.out]; rfl
    · exact (HB2.out.trans (HB1.out.mono (by simp; omega))).trans (Ho3.out.below (by have := HB1.out.size; simp at this; omega) (fun k hk e => by omega))
end Go.Proofs.Ytlgnpogmgpgdaaa
