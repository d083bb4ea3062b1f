/- MixApart: the walk. -/
import Derived.Test.YtockfbmhpdmlgaaMix
namespace Go.Proofs.Ytockfbmhpdmlgaa
set_option linter.unusedSimpArgs false
set_option linter.unusedVariables false
open Go.RowKit
set_option maxHeartbeats 800000 in
theorem mixApart_walk (s k t a x o : Int) (w : World) (hx0 : 0 ≤ x) (hx1 : x ≤ 255) (hs : (Lit.int .u64 s).wf = true) (hk : (Lit.int .u64 k).wf = true) (ht : (Lit.int .u64 t).wf = true) (ha : (Lit.int .u64 a).wf = true) (ho : (Lit.int .u64 o).wf = true) :
    Calls Try.prog 4 #[.agg #[.int .u64 s, .int .u64 k, .int .u64 t, .int .u64 a], .int .u8 x, .int .u64 o] w fun e w' => e = .returned (.bool true) ∧ Below w.heap.size w w' := by
  obtain ⟨pa, pt, pk, ps⟩ := apart_a s k t a o hs hk ht ha ho
  have Pa := Lib.hid pa
  have Pt := Lib.hid pt
  have Pk := Lib.hid pk
  have Ps := Lib.hid ps
  clear pa pt pk ps hs hk ht ha ho
  have hgu := tape_guard
  have heq := @tape_eql
  have hs0 : w.heap.size < w.heap.size + 1 + 1 := by omega
  go_enter Try.func4, Try.ntmps4
  go_wp2_with fail
  · have pp := Pa.out
    go_region_held3 (fun w' => w'.cell? ⟨w.heap.size, 0, none⟩ = some (.int .u64 s) ∧ w'.cell? ⟨w.heap.size, 1, none⟩ = some (.int .u64 k) ∧ w'.cell? ⟨w.heap.size, 2, none⟩ = some (.int .u64 t) ∧ w'.cell? ⟨w.heap.size, 3, none⟩ = some (.int .u64 a)
        ∧ w'.cell? ⟨w.heap.size + 1, 0, none⟩ = some (.int .u64 s) ∧ w'.cell? ⟨w.heap.size + 1, 1, none⟩ = some (.int .u64 k) ∧ w'.cell? ⟨w.heap.size + 1, 2, none⟩ = some (.int .u64 t) ∧ w'.cell? ⟨w.heap.size + 1, 3, none⟩ = some (.int .u64 o)) (go_keep)
      (first
        | (go_at_call_of 10 (Value.agg #[.int .u64 s, .int .u64 k, .int .u64 t, .int .u64 a]); refine (draw_any _ _ _ _ _).mono ?_; rintro e w1 ⟨rfl, hB1⟩; obtain ⟨hc1, hf1⟩ := bcell hB1; have hz1 : w.heap.size + 1 < w1.heap.size := (by have := hB1.size; simp at this; omega); have hz0 : w.heap.size < w1.heap.size := (by omega))
        | (go_at_call_of 10 (Value.agg #[.int .u64 s, .int .u64 k, .int .u64 t, .int .u64 o]); refine (draw_any _ _ _ _ _).mono ?_; rintro e w2 ⟨rfl, hB2⟩; obtain ⟨hc2, hf2⟩ := bcell hB2)
        | (go_at_call 12; refine (awake01_any _).mono ?_; rintro e w' ⟨rfl, rfl⟩))
    go_wp2
    go_ret
    exact ⟨rfl, ((((ext_alloc w _).alloc (by simp) _).drew).trans (hB1.mono (by simp; omega))).trans (hB2.mono (by omega))⟩
  · have pp := Pt.out
    go_region_held3 (fun w' => w'.cell? ⟨w.heap.size, 0, none⟩ = some (.int .u64 s) ∧ w'.cell? ⟨w.heap.size, 1, none⟩ = some (.int .u64 k) ∧ w'.cell? ⟨w.heap.size, 2, none⟩ = some (.int .u64 t) ∧ w'.cell? ⟨w.heap.size, 3, none⟩ = some (.int .u64 a)
        ∧ w'.cell? ⟨w.heap.size + 1, 0, none⟩ = some (.int .u64 s) ∧ w'.cell? ⟨w.heap.size + 1, 1, none⟩ = some (.int .u64 k) ∧ w'.cell? ⟨w.heap.size + 1, 2, none⟩ = some (.int .u64 o) ∧ w'.cell? ⟨w.heap.size + 1, 3, none⟩ = some (.int .u64 a)) (go_keep)
      (first
        | (go_at_call_of 10 (Value.agg #[.int .u64 s, .int .u64 k, .int .u64 t, .int .u64 a]); refine (draw_any _ _ _ _ _).mono ?_; rintro e w1 ⟨rfl, hB1⟩; obtain ⟨hc1, hf1⟩ := bcell hB1; have hz1 : w.heap.size + 1 < w1.heap.size := (by have := hB1.size; simp at this; omega); have hz0 : w.heap.size < w1.heap.size := (by omega))
        | (go_at_call_of 10 (Value.agg #[.int .u64 s, .int .u64 k, .int .u64 o, .int .u64 a]); refine (draw_any _ _ _ _ _).mono ?_; rintro e w2 ⟨rfl, hB2⟩; obtain ⟨hc2, hf2⟩ := bcell hB2)
        | (go_at_call 12; refine (awake01_any _).mono ?_; rintro e w' ⟨rfl, rfl⟩))
    go_wp2
    go_ret
    exact ⟨rfl, ((((ext_alloc w _).alloc (by simp) _).drew).trans (hB1.mono (by simp; omega))).trans (hB2.mono (by omega))⟩
  · have pp := Pk.out
    go_region_held3 (fun w' => w'.cell? ⟨w.heap.size, 0, none⟩ = some (.int .u64 s) ∧ w'.cell? ⟨w.heap.size, 1, none⟩ = some (.int .u64 k) ∧ w'.cell? ⟨w.heap.size, 2, none⟩ = some (.int .u64 t) ∧ w'.cell? ⟨w.heap.size, 3, none⟩ = some (.int .u64 a)
        ∧ w'.cell? ⟨w.heap.size + 1, 0, none⟩ = some (.int .u64 s) ∧ w'.cell? ⟨w.heap.size + 1, 1, none⟩ = some (.int .u64 o) ∧ w'.cell? ⟨w.heap.size + 1, 2, none⟩ = some (.int .u64 t) ∧ w'.cell? ⟨w.heap.size + 1, 3, none⟩ = some (.int .u64 a)) (go_keep)
      (first
        | (go_at_call_of 10 (Value.agg #[.int .u64 s, .int .u64 k, .int .u64 t, .int .u64 a]); refine (draw_any _ _ _ _ _).mono ?_; rintro e w1 ⟨rfl, hB1⟩; obtain ⟨hc1, hf1⟩ := bcell hB1; have hz1 : w.heap.size + 1 < w1.heap.size := (by have := hB1.size; simp at this; omega); have hz0 : w.heap.size < w1.heap.size := (by omega))
        | (go_at_call_of 10 (Value.agg #[.int .u64 s, .int .u64 o, .int .u64 t, .int .u64 a]); refine (draw_any _ _ _ _ _).mono ?_; rintro e w2 ⟨rfl, hB2⟩; obtain ⟨hc2, hf2⟩ := bcell hB2)
        | (go_at_call 12; refine (awake01_any _).mono ?_; rintro e w' ⟨rfl, rfl⟩))
    go_wp2
    go_ret
    exact ⟨rfl, ((((ext_alloc w _).alloc (by simp) _).drew).trans (hB1.mono (by simp; omega))).trans (hB2.mono (by omega))⟩
  · have pp := Ps.out
    go_region_held3 (fun w' => w'.cell? ⟨w.heap.size, 0, none⟩ = some (.int .u64 s) ∧ w'.cell? ⟨w.heap.size, 1, none⟩ = some (.int .u64 k) ∧ w'.cell? ⟨w.heap.size, 2, none⟩ = some (.int .u64 t) ∧ w'.cell? ⟨w.heap.size, 3, none⟩ = some (.int .u64 a)
        ∧ w'.cell? ⟨w.heap.size + 1, 0, none⟩ = some (.int .u64 o) ∧ w'.cell? ⟨w.heap.size + 1, 1, none⟩ = some (.int .u64 k) ∧ w'.cell? ⟨w.heap.size + 1, 2, none⟩ = some (.int .u64 t) ∧ w'.cell? ⟨w.heap.size + 1, 3, none⟩ = some (.int .u64 a)) (go_keep)
      (first
        | (go_at_call_of 10 (Value.agg #[.int .u64 s, .int .u64 k, .int .u64 t, .int .u64 a]); refine (draw_any _ _ _ _ _).mono ?_; rintro e w1 ⟨rfl, hB1⟩; obtain ⟨hc1, hf1⟩ := bcell hB1; have hz1 : w.heap.size + 1 < w1.heap.size := (by have := hB1.size; simp at this; omega); have hz0 : w.heap.size < w1.heap.size := (by omega))
        | (go_at_call_of 10 (Value.agg #[.int .u64 o, .int .u64 k, .int .u64 t, .int .u64 a]); refine (draw_any _ _ _ _ _).mono ?_; rintro e w2 ⟨rfl, hB2⟩; obtain ⟨hc2, hf2⟩ := bcell hB2)
        | (go_at_call 12; refine (awake01_any _).mono ?_; rintro e w' ⟨rfl, rfl⟩))
    go_wp2
    go_ret
    exact ⟨rfl, ((((ext_alloc w _).alloc (by simp) _).drew).trans (hB1.mono (by simp; omega))).trans (hB2.mono (by omega))⟩
end Go.Proofs.Ytockfbmhpdmlgaa
