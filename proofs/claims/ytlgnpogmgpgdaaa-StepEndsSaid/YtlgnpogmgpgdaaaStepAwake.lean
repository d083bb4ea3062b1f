/- Layer 21's example; what is more than is gone through. -/
import Derived.Test.YtlgnpogmgpgdaaaMoveW
import Derived.Test.YtlgnpogmgpgdaaaWkEq
namespace Go.Proofs.Ytlgnpogmgpgdaaa
set_option linter.unusedSimpArgs false
set_option linter.unusedVariables false
set_option maxRecDepth 100000
open Go.RowKit

def greatB (a n m : Nat) : Bool := decide (300 < a) || (decide (100 < n) || decide (100 < m))
set_option maxHeartbeats 1600000 in
theorem great_any (j : JobD) (so : Option Addr) (sc : Nat) (n m : Nat) (ao bo : Option Addr) (ca cb : Nat) (w : World) :
    Calls Try.prog 12 #[.agg (jobCs j so sc), .slice ao n ca, .slice bo m cb] w (RetB (.bool (greatB j.src.length n m)) w) := by
  obtain ⟨a, ha⟩ : ∃ a, a = j.src.length := ⟨_, rfl⟩
  rw [← ha]
  obtain ⟨W2, hW2⟩ : ∃ W2, W2 = w.alloc (.cells (jobCs j so sc) 28) := ⟨_, rfl⟩
  have HB2 := Lib.hid (show Below w.heap.size w W2 by rw [hW2]; exact ext_alloc w _)
  have q4 : W2.cell? ⟨w.heap.size, 4, none⟩ = some (.slice so a sc) := by rw [hW2, cell_of_row _ _ 4 _ _ (0, 0) (heap_alloc_new w _), ha]; rfl
  clear ha
  by_cases h1 : 300 < a
  · have d1 : decide (300 < a) = true := decide_eq_true h1
    have d1' : decide ((300 : Int) < (a : Int)) = true := decide_eq_true (by omega)
    clear h1
    go_enter Try.func12, Try.ntmps12
    go_upto_region 1 with fail
    rw [← hW2]
    clear hW2
    go_wp2_with fail
    go_ret
    exact ⟨by simp [greatB, *], HB2.out⟩
  have d1 : decide (300 < a) = false := decide_eq_false h1
  have d1' : decide ((300 : Int) < (a : Int)) = false := decide_eq_false (by omega)
  clear h1
  by_cases h2 : 100 < n
  · have d2 : decide (100 < n) = true := decide_eq_true h2
    have d2' : decide ((100 : Int) < (n : Int)) = true := decide_eq_true (by omega)
    clear h2
    go_enter Try.func12, Try.ntmps12
    go_upto_region 1 with fail
    rw [← hW2]
    clear hW2
    go_wp2_with fail
    go_ret
    exact ⟨by simp [greatB, *], HB2.out⟩
  have d2 : decide (100 < n) = false := decide_eq_false h2
  have d2' : decide ((100 : Int) < (n : Int)) = false := decide_eq_false (by omega)
  clear h2
  by_cases h3 : 100 < m
  · have d3 : decide (100 < m) = true := decide_eq_true h3
    have d3' : decide ((100 : Int) < (m : Int)) = true := decide_eq_true (by omega)
    clear h3
    go_enter Try.func12, Try.ntmps12
    go_upto_region 1 with fail
    rw [← hW2]
    clear hW2
    go_wp2_with fail
    go_ret
    exact ⟨by simp [greatB, *], HB2.out⟩
  · have d3 : decide (100 < m) = false := decide_eq_false h3
    have d3' : decide ((100 : Int) < (m : Int)) = false := decide_eq_false (by omega)
    clear h3
    go_enter Try.func12, Try.ntmps12
    go_upto_region 1 with fail
    rw [← hW2]
    clear hW2
    go_wp2_with fail
    go_ret
    exact ⟨by simp [greatB, *], HB2.out⟩
theorem great_no {a n m : Nat} (h : greatB a n m = false) : a ≤ 300 ∧ n ≤ 100 ∧ m ≤ 100 := by
  simp only [greatB, Bool.or_eq_false_iff, decide_eq_false_iff_not] at h
  omega

def aw21J : JobD := ⟨0, 0, 10, 1, [5], 0, 1, 1, 1, 100, 10, 1024, 4096, 64, 64⟩
theorem aw21J_ok : JobOk aw21J := by
  refine ⟨?_, ?_, ?_, ?_, ?_, ?_, ?_, ?_, ?_, ?_, ?_, ?_, ?_, ?_, ?_⟩ <;> decide
def aw21W : WkD := ⟨0, 0, 5, 0, 0, 0, 0⟩
theorem aw21W_ok : WkOk aw21W := by
  refine ⟨?_, ?_, ?_, ?_, ?_, ?_, ?_⟩ <;> decide
theorem aw21_may : mayJ aw21J = true := by decide
theorem aw21_mayW : mayW aw21J aw21W = true := by
  have h : walkersJ aw21J = 1 := by unfold walkersJ; rw [aw21_may]; rfl
  unfold mayW newJ srcH srcN
  rw [show aw21W.id = 0 from rfl, h]
  decide
theorem aw21_move : moveM aw21J aw21W [(7, 3)] [(3, 0)] = (⟨0, 1, 7, 0, 0, 0, 0⟩, 2) := by
  have ha : mayA [(7, 3)] = true := by decide
  have h := (move_fixed (j := aw21J) (x := aw21W) (l := [(7, 3)]) (t := [(3, 0)]) aw21_mayW ha rfl rfl (by intro c hc; simp at hc; subst hc; decide)).2 (by decide)
  have ht : totalM [(7, 3)] = 3 := by unfold totalM; rw [ha]; rfl
  have hx := drwN_lt aw21J aw21W (2 * aw21W.try_ + 1) 3 (by omega)
  have hr : restartsM aw21J aw21W = false := by unfold restartsM; rfl
  unfold moveM
  rw [aw21_mayW, ha, hr, ht]
  generalize drwN aw21J aw21W (2 * aw21W.try_ + 1) 3 = X at hx
  have hal : aliasM [(7, 3)] [(3, 0)] X = some 0 := by
    unfold aliasM
    rw [ht, show sumA [(7, 3)] = 3 from rfl, if_neg (by simp; omega)]
    have e1 : X / 3 = 0 := by omega
    have e2 : X % 3 = X := by omega
    rw [e1, e2, if_pos (by simpa using hx)]
  rw [hal]
  rfl
theorem rd_arc1 (W : World) (a b n : Nat) (hn : n = W.heap.size) (ha : a < 4294967296) (hb : b < 4294967296) (t : TypeId) : RdS arcRep (fun _ => True) (W.alloc (.cells #[.int .u32 (a : Nat), .int .u32 (b : Nat)] t)) (some ⟨n, 0, none⟩) [(a, b)] :=
  (RdS.new (R := arcRep) (fp := fun _ => False) (l := [(a, b)]) (css := [[.int .u32 (a : Nat), .int .u32 (b : Nat)]]) (.cons ⟨[_], [_], rfl, ⟨rfl, ha⟩, ⟨rfl, hb⟩⟩ .nil) rfl n hn).mono (fun _ _ _ => trivial)
theorem rd_cell1 (W : World) (a b n : Nat) (hn : n = W.heap.size) (ha : a < 18446744073709551616) (hb : b < 4294967296) (t : TypeId) : RdS cellRep (fun _ => True) (W.alloc (.cells #[.int .u64 (a : Nat), .int .u32 (b : Nat)] t)) (some ⟨n, 0, none⟩) [(a, b)] :=
  (RdS.new (R := cellRep) (fp := fun _ => False) (l := [(a, b)]) (css := [[.int .u64 (a : Nat), .int .u32 (b : Nat)]]) (.cons ⟨[_], [_], rfl, ⟨rfl, ha⟩, ⟨rfl, hb⟩⟩ .nil) rfl n hn).mono (fun _ _ _ => trivial)
set_option maxRecDepth 100000 in
set_option maxHeartbeats 3200000 in
theorem awake21_any (w : World) : Calls Try.prog 13 #[] w (RetB (.bool true) w) := by
  have HBg := Lib.hid (show Calls Try.prog 41 #[] w (RetB (.agg #[.int .u8 0, .int .u64 0, .int .u32 10, .int .u32 1, .slice none 0 0, .int .u32 0, .int .u32 1, .int .u32 1, .int .u32 1, .int .u32 100, .int .u32 10, .int .u32 1024, .int .u32 4096, .int .u32 64, .int .u32 64]) w) from begin_any w)
  go_enter Try.func13, Try.ntmps13
  go_upto_region 3 with (go_at_call 41; refine HBg.out.mono ?_; rintro e w1 ⟨rfl, hB1⟩; have HB1 := Lib.hid hB1; clear hB1)
  obtain ⟨W2, hW2⟩ : ∃ W2, W2 = (w1.alloc (.cells #[.int .u8 0, .int .u64 0, .int .u32 10, .int .u32 1, .slice (some ⟨w1.heap.size + 1, 0, none⟩) 1 1, .int .u32 0, .int .u32 1, .int .u32 1, .int .u32 1, .int .u32 100, .int .u32 10, .int .u32 1024, .int .u32 4096, .int .u32 64, .int .u32 64] 28)).alloc (.cells #[.int .u32 5] 23) := ⟨_, rfl⟩
  rw [← hW2]
  have hz2 : W2.heap.size = w1.heap.size + 2 := by rw [hW2]; simp
  have hb1 : W2.heap[w1.heap.size]? = some (.cells (jobCs aw21J (some ⟨w1.heap.size + 1, 0, none⟩) 1) 28 (0, 0)) := by rw [hW2]; exact heap_alloc2_old _ _ _
  have hb2 : W2.heap[w1.heap.size + 1]? = some (.cells #[.int .u32 5] 23 (0, 0)) := by rw [hW2]; exact heap_alloc2_new _ _ _
  have HB2 := Lib.hid (show Below w1.heap.size w1 W2 by rw [hW2]; exact (ext_alloc _ _).alloc (by simp) _)
  have hrd : Rd W2 (some ⟨w1.heap.size + 1, 0, none⟩) aw21J.src.length (u32s aw21J.src) := by
    have ho : Own W2 (some ⟨w1.heap.size + 1, 0, none⟩) 1 (some (w1.heap.size + 1)) 23 1 1 (u32s aw21J.src) := ⟨rfl, .inr ⟨w1.heap.size + 1, _, rfl, rfl, hb2, Nat.le_refl _, by decide, rfl, rfl⟩⟩
    exact ho.rd
  obtain ⟨W4, hW4⟩ : ∃ W4, W4 = (W2.alloc (.cells #[.int .u32 7, .int .u32 3] 42)).alloc (.cells #[.int .u64 3, .int .u32 0] 85) := ⟨_, rfl⟩
  have HB4 := Lib.hid (show Below W2.heap.size W2 W4 by rw [hW4]; exact (ext_alloc _ _).alloc (by simp) _)
  have hl : RdS arcRep (fun _ => True) W4 (some ⟨w1.heap.size + 2, 0, none⟩) [(7, 3)] := by
    rw [hW4]
    exact (rd_arc1 W2 7 3 (w1.heap.size + 2) (by omega) (by decide) (by decide) _).ext (ext_alloc _ _)
  have ht : RdS cellRep (fun _ => True) W4 (some ⟨w1.heap.size + 3, 0, none⟩) [(3, 0)] := by
    rw [hW4]
    exact rd_cell1 _ 3 0 (w1.heap.size + 3) (by simp; omega) (by decide) (by decide) _
  have HMv := Lib.hid (show Calls Try.prog 14 #[.agg (jobCs aw21J (some ⟨w1.heap.size + 1, 0, none⟩) 1), .agg #[.int .u32 0, .int .u32 0, .int .u32 5, .int .u32 0, .int .u32 0, .int .u32 0, .int .u32 0], .slice (some ⟨w1.heap.size + 2, 0, none⟩) 1 1, .slice (some ⟨w1.heap.size + 3, 0, none⟩) 1 1] W4 (RetB (.tuple #[.agg #[.int .u32 0, .int .u32 1, .int .u32 7, .int .u32 0, .int .u32 0, .int .u32 0, .int .u32 0], .int .u8 2]) W4) from by
    have h := move_any aw21J aw21J_ok (some ⟨w1.heap.size + 1, 0, none⟩) 1 aw21W aw21W_ok [(7, 3)] [(3, 0)] (some ⟨w1.heap.size + 2, 0, none⟩) (some ⟨w1.heap.size + 3, 0, none⟩) 1 1 _ _ W4 (by decide) (by decide) (by decide) (hrd.ext HB4.out) hl ht
    rw [aw21_move] at h
    exact h)
  have heq : ∀ W, (Op.equalIn 10000 30 (.agg #[.int .u32 0, .int .u32 1, .int .u32 7, .int .u32 0, .int .u32 0, .int .u32 0, .int .u32 0]) (.agg #[.int .u32 0, .int .u32 1, .int .u32 7, .int .u32 0, .int .u32 0, .int .u32 0, .int .u32 0])).run Try.prog W = .ok true W := fun W => eq_walker ⟨0, 1, 7, 0, 0, 0, 0⟩ ⟨0, 1, 7, 0, 0, 0, 0⟩ W
  have Hb1 := Lib.hid hb1
  have HW4 := Lib.hid hW4
  clear hb1 hb2 hrd hW2 hl ht hW4
  go_upto_region 4 with (first
    | (refine wpList_load_row rfl _ _ rfl w1.heap.size rfl 28 (jobCs aw21J (some ⟨w1.heap.size + 1, 0, none⟩) 1) (0, 0) _ Hb1.out Try.underlying28 rfl (show _ = some 15 by kernel_rfl) ?_)
    | (go_at_call 14; rw [← HW4.out]; (with_reducible refine HMv.out.mono ?_); rintro e w5 ⟨rfl, hB5⟩; have HB5 := Lib.hid hB5; clear hB5))
  go_wp2_with fail
  go_ret
  refine ⟨rfl, ?_⟩
  have b3 := HB1.out.trans (HB2.out.mono HB1.out.size)
  have b4 := b3.trans (HB4.out.mono b3.size)
  have b5 := b4.trans (HB5.out.mono b4.size)
  exact b5.alloc b5.size _
end Go.Proofs.Ytlgnpogmgpgdaaa
