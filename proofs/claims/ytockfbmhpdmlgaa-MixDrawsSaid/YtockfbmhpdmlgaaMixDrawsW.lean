/- MixDraws: the walk. -/
import Derived.Test.YtockfbmhpdmlgaaMix
namespace Go.Proofs.Ytockfbmhpdmlgaa
set_option linter.unusedSimpArgs false
set_option linter.unusedVariables false
open Go.RowKit
set_option maxHeartbeats 400000 in
theorem mixDraws_walk (n s k t a : Int) (w : World) :
    Calls Try.prog 3 #[.int .u64 n, .agg #[.int .u64 s, .int .u64 k, .int .u64 t, .int .u64 a]] w fun e w' => e = .returned (.bool true) ∧ Below w.heap.size w w' := by
  have hmm : (mixZ n == mixZ n) = true := by simp
  have hdd : (drawZ s k t a == drawZ s k t a) = true := by simp
  go_enter Try.func3, Try.ntmps3
  go_wp2_with fail
  go_region_held3 (fun w' => w'.cell? ⟨w.heap.size, 0, none⟩ = some (.int .u64 s) ∧ w'.cell? ⟨w.heap.size, 1, none⟩ = some (.int .u64 k) ∧ w'.cell? ⟨w.heap.size, 2, none⟩ = some (.int .u64 t) ∧ w'.cell? ⟨w.heap.size, 3, none⟩ = some (.int .u64 a)) (go_keep)
      (first
        | (go_at_call 8; refine (mix_any _ _).mono ?_; rintro e w' ⟨rfl, rfl⟩)
        | (go_at_call 9; refine (rmix_any _ _).mono ?_; rintro e w' ⟨rfl, rfl⟩)
        | (go_at_call 10; refine (draw_any _ _ _ _ _).mono ?_; rintro e w1 ⟨rfl, hB1⟩; obtain ⟨hc1, hf1⟩ := bcell hB1; have hz1 : w.heap.size < w1.heap.size := (by have := hB1.size; simp at this; omega))
        | (go_at_call 11; refine (rdraw_any _ _ _ _ _).mono ?_; rintro e w2 ⟨rfl, hB2⟩; obtain ⟨hc2, hf2⟩ := bcell hB2)
        | (go_at_call 12; refine (awake01_any _).mono ?_; rintro e w' ⟨rfl, rfl⟩))
  go_wp2
  go_ret
  exact ⟨rfl, ((ext_alloc _ _).drew.trans (hB1.mono (by simp))).trans (hB2.mono (by omega))⟩
end Go.Proofs.Ytockfbmhpdmlgaa
