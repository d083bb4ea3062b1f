/- The reference's Of: a key's edge. -/
import Derived.Test.YtafbjkbdfdeacaaRefKey
namespace Go.Proofs.Ytafbjkbdfdeacaa
set_option linter.unusedSimpArgs false
set_option linter.unusedVariables false
open Go.RowKit

def edgeV (x : Nat × Nat × Nat) : Value := .agg #[.int .u32 x.1, .int .u32 x.2.1, .int .u32 x.2.2]

set_option maxRecDepth 100000 in
set_option maxHeartbeats 1600000 in
theorem rof_yes (l : List UInt8) (ao : Option Addr) (cap : Nat) (w : World) (h12 : l.length = 12) (hcap : l.length ≤ cap) (hrd : Rd w ao l.length (byteVals l)) :
    Calls Try.prog 17 #[.slice ao l.length cap] w fun e w' => e = .returned (.tuple #[edgeV (keyOf l), .bool true]) ∧ Below w.heap.size w w' := by
  obtain ⟨b, off, rfl, hb, hc⟩ := hrd.pos (by omega)
  obtain ⟨c0, c1, c2, c3, c4, c5, c6, c7, c8, c9, c10, c11, rfl⟩ := twelve l h12
  have h0 := hc 0 (by simp); have h1 := hc 1 (by simp); have h2 := hc 2 (by simp); have h3 := hc 3 (by simp)
  have h4 := hc 4 (by simp); have h5 := hc 5 (by simp); have h6 := hc 6 (by simp); have h7 := hc 7 (by simp)
  have h8 := hc 8 (by simp); have h9 := hc 9 (by simp); have h10 := hc 10 (by simp); have h11 := hc 11 (by simp)
  simp only [byteVals, List.map_cons, List.map_nil, List.getElem?_cons_zero, List.getElem?_cons_succ, Nat.add_zero] at h0 h1 h2 h3 h4 h5 h6 h7 h8 h9 h10 h11
  simp only [List.length_cons, List.length_nil] at hcap
  clear hc hrd h12
  simp only [keyOf, List.take_succ_cons, List.take_zero, List.drop_succ_cons, List.drop_zero]
  have hcap' : (12 : Int) ≤ cap := by omega
  have hcap8 : (8 : Int) ≤ cap := by omega
  have hcap4 : (4 : Int) ≤ cap := by omega
  have hn4 : ¬ cap = 4 := by omega
  have hn8 : ¬ cap = 8 := by omega
  go_enter Try.func17, Try.ntmps17
  go_wp2_with fail
  obtain ⟨wA, hwA⟩ : ∃ x, w.alloc (Obj.cells #[Value.int IntKind.u32 0, Value.int IntKind.u32 0, Value.int IntKind.u32 0] 24) = x := ⟨_, rfl⟩
  have hBA : Below w.heap.size w wA := by rw [← hwA]; exact ext_alloc w _
  have hA := fun o => (bcell hBA).1 b o hb
  rw [← hA] at h0
  rw [← hA] at h1
  rw [← hA] at h2
  rw [← hA] at h3
  rw [← hA] at h4
  rw [← hA] at h5
  rw [← hA] at h6
  rw [← hA] at h7
  rw [← hA] at h8
  rw [← hA] at h9
  rw [← hA] at h10
  rw [← hA] at h11
  have a0 : wA.cell? ⟨w.heap.size, 0, none⟩ = some (.int .u32 0) := by rw [← hwA]; simp [go_sem, ↓IntWalk.iteOmega]
  have f0 : wA.frozen? ⟨w.heap.size, 0, none⟩ = false := by rw [← hwA]; simp [go_sem, ↓IntWalk.iteOmega]
  have a1 : wA.cell? ⟨w.heap.size, 1, none⟩ = some (.int .u32 0) := by rw [← hwA]; simp [go_sem, ↓IntWalk.iteOmega]
  have f1 : wA.frozen? ⟨w.heap.size, 1, none⟩ = false := by rw [← hwA]; simp [go_sem, ↓IntWalk.iteOmega]
  have a2 : wA.cell? ⟨w.heap.size, 2, none⟩ = some (.int .u32 0) := by rw [← hwA]; simp [go_sem, ↓IntWalk.iteOmega]
  have f2 : wA.frozen? ⟨w.heap.size, 2, none⟩ = false := by rw [← hwA]; simp [go_sem, ↓IntWalk.iteOmega]
  rw [hwA]
  clear hwA hA
  go_region_held3 (fun w' => True) (trivial)
      (first
        | (go_at_call 39; (with_reducible refine (number_any c0 c1 c2 c3 b off _ _ _ (by omega) (by simp [go_sem, *]) (by simp [go_sem, *]) (by simp [go_sem, *]) (by simp [go_sem, *])).mono ?_); rintro e w1 ⟨rfl, nq, rfl⟩)
        | (go_at_call 39; (with_reducible refine (number_any c4 c5 c6 c7 b (off + 4) _ _ _ (by omega) (by simp [go_sem, *]) (by simp [go_sem, *]) (by simp [go_sem, *]) (by simp [go_sem, *])).mono ?_); rintro e w1 ⟨rfl, nq, rfl⟩)
        | (go_at_call 39; (with_reducible refine (number_any c8 c9 c10 c11 b (off + 8) _ _ _ (by omega) (by simp [go_sem, *]) (by simp [go_sem, *]) (by simp [go_sem, *]) (by simp [go_sem, *])).mono ?_); rintro e w1 ⟨rfl, nq, rfl⟩))
  go_wp2
  refine bodyPost_ret (v := .tuple #[edgeV (num4 [c0, c1, c2, c3], num4 [c4, c5, c6, c7], num4 [c8, c9, c10, c11]), .bool true]) (by simp [results, Try.results17, go_sem, cell_set_ite, a0, a1, a2, edgeV]) rfl ⟨rfl, ?_⟩
  exact (((below_drewN hBA _).setCell (by simp) _).setCell (by simp) _).setCell (by simp) _

set_option maxRecDepth 100000 in
set_option maxHeartbeats 1600000 in
theorem rof_no (n cap : Nat) (ao : Option Addr) (w : World) (h12 : n ≠ 12) :
    Calls Try.prog 17 #[.slice ao n cap] w fun e w' => e = .returned (.tuple #[edgeV (0, 0, 0), .bool false]) ∧ Below w.heap.size w w' := by
  have hd : ((n : Int) != 12) = true := by simp; omega
  go_enter Try.func17, Try.ntmps17
  go_wp2
  refine bodyPost_ret (v := .tuple #[edgeV (0, 0, 0), .bool false]) (by simp [results, Try.results17, go_sem, ↓IntWalk.iteOmega, edgeV]) rfl ⟨rfl, ?_⟩
  exact ext_alloc w _
end Go.Proofs.Ytafbjkbdfdeacaa
