/- MixRows: the walk. -/
import Derived.Test.YtockfbmhpdmlgaaMixRow
namespace Go.Proofs.Ytockfbmhpdmlgaa
set_option linter.unusedSimpArgs false
set_option linter.unusedVariables false
open Go.RowKit
attribute [local go_sem] Oper.semAt_some

set_option maxRecDepth 100000 in
set_option maxHeartbeats 1600000 in
theorem mixRows_walk (s k t a m : Int) (w : World) (hm0 : 0 ≤ m) (hm1 : m ≤ 65535) :
    Calls Try.prog 5 #[.agg #[.int .u64 s, .int .u64 k, .int .u64 t, .int .u64 a], .int .u16 m] w fun e w' => e = .returned (.bool true) ∧ Below w.heap.size w w' := by
  have hq : ∀ (fn : Fn) (a b : Array Value) (w : World), (binOp .eql 32 (.func fn a b) .nilFunc).run Try.prog w = .ok (.bool false) w := fun _ _ _ _ => by kernel_rfl
  refine (callsIn_wide (n := 0)).1 (callsIn_of_wp_marks Try.func5 rfl trivial ?_)
  simp only [Try.ntmps5, List.size_toArray, List.length_cons, List.length_nil, Nat.reduceAdd, Nat.reduceSub, Array.replicate_succ, Array.replicate_zero, List.push_toArray, List.append_toArray, List.nil_append, List.cons_append]
  gi_wp2_with (first
    | (gi_at_call 11; refine (callsIn_wide.2 (rdraw_any _ _ _ _ _)).mono ?_; rintro e w1 ⟨rfl, hB1⟩; obtain ⟨hc1, hf1⟩ := bext hB1; have hz1 := hB1.size; simp at hz1)
    | (gi_at_call 13; refine (callsIn_wide.2 (row_any _ _ _ _ _)).mono ?_; rintro e w2 ⟨rfl, rfl⟩))
  have h300 : 0 ≤ m % 300 ∧ m % 300 < 300 := by omega
  obtain ⟨K, hK⟩ : ∃ K : Nat, m % 300 = K := ⟨(m % 300).toNat, by omega⟩
  rw [hK] at hB1 hc1 hf1 ⊢
  have hK300 : K < 300 := by omega
  clear hK h300
  obtain ⟨w2, hw2⟩ : ∃ w2, ((w1.alloc (Obj.cells #[Value.int IntKind.u64 (drawZ s k t a)] 22)).alloc (Obj.cells #[Value.int IntKind.i64 0] 3)).alloc (Obj.cells #[Value.int IntKind.u64 s, Value.int IntKind.u64 k, Value.int IntKind.u64 t, Value.int IntKind.u64 a] 24) = w2 := ⟨_, rfl⟩
  have c4 : w2.cell? ⟨w.heap.size + 1, 0, none⟩ = some (.bool false) := by rw [← hw2]; simp [go_sem, hc1, ↓IntWalk.iteOmega]
  have f4 : w2.frozen? ⟨w.heap.size + 1, 0, none⟩ = false := by rw [← hw2]; simp [go_sem, hf1, ↓IntWalk.iteOmega]
  have c5 : w2.cell? ⟨w.heap.size + 1 + 1, 0, none⟩ = some (.int .i64 K) := by rw [← hw2]; simp [go_sem, hc1, ↓IntWalk.iteOmega]
  have c6 : w2.cell? ⟨w1.heap.size, 0, none⟩ = some (.int .u64 (rowZ (drawZ s k t a) 0)) := by rw [← hw2]; simp [go_sem, ↓IntWalk.iteOmega, rowZ]
  have f6 : w2.frozen? ⟨w1.heap.size, 0, none⟩ = false := by rw [← hw2]; simp [go_sem, ↓IntWalk.iteOmega]
  have c7 : w2.cell? ⟨w1.heap.size + 1, 0, none⟩ = some (.int .i64 0) := by rw [← hw2]; simp [go_sem, ↓IntWalk.iteOmega]
  have f7 : w2.frozen? ⟨w1.heap.size + 1, 0, none⟩ = false := by rw [← hw2]; simp [go_sem, ↓IntWalk.iteOmega]
  have t0 : ∀ i, w2.cell? ⟨w1.heap.size + 1 + 1, i, none⟩ = #[Value.int IntKind.u64 s, Value.int IntKind.u64 k, Value.int IntKind.u64 t, Value.int IntKind.u64 a][i]? := by intro i; rw [← hw2]; simp [go_sem]
  have hs2 : w2.heap.size = w1.heap.size + 3 := by rw [← hw2]; simp
  have hB2 : Below w.heap.size w w2 := by
    rw [← hw2]
    exact ((((((ext_alloc w _).alloc (by simp) _).alloc (by simp; omega) _).trans (hB1.mono (by simp; omega))).alloc (by omega) _).alloc (by simp; omega) _).alloc (by simp; omega) _
  rw [hw2]
  clear hw2 hB1 hc1 hf1
  have C4 := Lib.hid c4
  have C5 := Lib.hid c5
  have F4 := Lib.hid f4
  clear c4 c5 f4
  refine wpIn_range1 (gf := 16) (lb := #[.pointer (some ⟨w1.heap.size + 1 + 1, 0, none⟩)]) rfl (enters_of Try.func16 (by kernel_rfl) rfl) (row_iter (w1.heap.size + 1 + 1) s k t a K) (fun _ => rfl)
    (fun b => b = w1.heap.size ∨ b = w1.heap.size + 1) (fun b hb => ⟨by omega, fun h => h⟩) (fun b h => h.elim)
    (fun pre W => rowOk (drawZ s k t a) pre ∧ pre.length ≤ K ∧ (W.cell? ⟨w1.heap.size, 0, none⟩ = some (.int .u64 (rowZ (drawZ s k t a) pre.length)) ∧ W.frozen? ⟨w1.heap.size, 0, none⟩ = false) ∧ W.cell? ⟨w1.heap.size + 1, 0, none⟩ = some (.int .i64 pre.length) ∧ W.frozen? ⟨w1.heap.size + 1, 0, none⟩ = false)
    (fun c pre W => c = .exit 0 ∧ W.cell? ⟨w1.heap.size + 1, 0, none⟩ = some (.int .i64 K))
    (fun pre A B h hs => ⟨h.1, h.2.1, ⟨(hs.cell (.inl rfl) 0).trans h.2.2.1.1, (hs.frozen (.inl rfl) 0).trans h.2.2.1.2⟩, (hs.cell (.inr rfl) 0).trans h.2.2.2.1, (hs.frozen (.inr rfl) 0).trans h.2.2.2.2⟩)
    (fun c pre A B h hs => ⟨h.1, (hs.cell (.inr rfl) 0).trans h.2⟩)
    (fun pre A h => h.2.1)
    (fun W hb => ⟨(hb.cell (p := ⟨_, 0, none⟩) (by simp; omega)).trans (t0 0), (hb.cell (p := ⟨_, 1, none⟩) (by simp; omega)).trans (t0 1), (hb.cell (p := ⟨_, 2, none⟩) (by simp; omega)).trans (t0 2), (hb.cell (p := ⟨_, 3, none⟩) (by simp; omega)).trans (t0 3)⟩)
    ⟨rowOk_nil _, by simp, ⟨c6, f6⟩, c7, f7⟩
    [(20, fun x => .int .u64 x), (9, fun x => .int .u64 x)] ?assign ?body ?done ?stop
  case assign =>
    intro l x W K hK
    gi_wp2
    exact hK
  case body =>
    rintro l pre x W W0 _ _ honly hok _ _ ⟨hpre, hlen, ⟨hc6, hf6⟩, hc7, hf7⟩ _
    simp only [List.foldl_cons, List.foldl_nil, List.setIfInBounds_toArray, List.set_cons_zero, List.set_cons_succ]
    have hx : x = rowZ (drawZ s k t a) pre.length := by
      have h1 := hok
      unfold rowOk at h1 hpre
      rw [List.length_append, List.length_singleton, List.range_succ, List.map_append, ← hpre] at h1
      simpa using h1
    have hne : (x != rowZ (drawZ s k t a) pre.length) = false := by simp [hx]
    have hc5 : W.cell? ⟨w.heap.size + 1 + 1, 0, none⟩ = some (.int .i64 K) := (honly.cell (by omega) (by rintro (h | h) <;> omega) 0).trans C5.out
    have Hx := Lib.hid hx
    have Hok := Lib.hid hok
    clear hx hok hpre honly
    have hr : rowZ (drawZ s k t a) (pre.length + 1) = mixZ (rowZ (drawZ s k t a) pre.length) := rfl
    have Hr := Lib.hid hr
    clear hr
    by_cases hlt : pre.length < K
    · have hge : decide ((K : Int) ≤ (pre.length : Int)) = false := by simp; omega
      gi_wp2_with (gi_at_call 9; refine (CallsIn.inRound l (callsIn_wide.2 (rmix_any _ _))).mono ?_; rintro e w' ⟨rfl, rfl⟩)
      have hr := Hr.out
      exact ⟨((Only.refl _ _).setCell (fun _ => .inl rfl) _).setCell (fun _ => .inr rfl) _, Hok.out, by simp; omega, ⟨by simp [cell_set_ite, hc6, hr], by simp [hf6]⟩, by simp [cell_set_ite, hc7], by simp [hf7]⟩
    · obtain rfl : pre.length = K := by omega
      have hge : decide ((pre.length : Int) ≤ (pre.length : Int)) = true := by simp
      gi_wp2_with (gi_at_call 9; refine (CallsIn.inRound l (callsIn_wide.2 (rmix_any _ _))).mono ?_; rintro e w' ⟨rfl, rfl⟩)
      exact ⟨(Only.refl _ _).setCell (fun _ => .inl rfl) _, rfl, by simp [cell_set_ite, hc7]⟩
  case done =>
    rintro D xs W _ h
    exact h.elim
  case stop =>
    rintro D c xs W hD _ ⟨rfl, hc7⟩ honly hk
    have hc5 : W.cell? ⟨w.heap.size + 1 + 1, 0, none⟩ = some (.int .i64 K) := (honly.cell (by omega) (by rintro ((h | h) | h) <;> omega) 0).trans C5.out
    have hc4 : W.cell? ⟨w.heap.size + 1, 0, none⟩ = some (.bool false) := (honly.cell (by omega) (by rintro ((h | h) | h) <;> omega) 0).trans C4.out
    have hf4 : W.frozen? ⟨w.heap.size + 1, 0, none⟩ = false := (honly.frozen (by omega) (by rintro ((h | h) | h) <;> omega) 0).trans F4.out
    dsimp only
    gi_wp2_with (gi_at_call 12; refine (callsIn_wide.2 (awake01_any _)).mono ?_; rintro e w' ⟨rfl, rfl⟩)
    refine leaveM1 (v := .bool true) ((Below.heap_setCell _ _ _ _ (by simp; omega)).trans hk) ?_ ⟨rfl, ?_⟩
    · have hD4 : w.heap.size + 1 ≠ D := by omega
      simp [results, Try.results5, go_sem, hD4, hc4]
    · exact ext_put (((hB2.trans (honly.below (by omega) (by rintro k hk ((h | h) | h) <;> omega))).setCell (by simp) _)) (by omega)
end Go.Proofs.Ytockfbmhpdmlgaa
