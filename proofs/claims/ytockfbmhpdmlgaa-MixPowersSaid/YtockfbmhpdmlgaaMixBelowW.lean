/- MixBelow, MixPowers: the walks. -/
import Derived.Test.YtockfbmhpdmlgaaMixBelow
namespace Go.Proofs.Ytockfbmhpdmlgaa
set_option linter.unusedSimpArgs false
set_option linter.unusedVariables false
open Go.RowKit
theorem belowZ_lt (d n : Int) (h : 1 ≤ n) : 0 ≤ belowZ d n ∧ belowZ d n < n := by
  unfold belowZ
  rw [if_neg (by omega)]
  exact ⟨Int.emod_nonneg _ (by omega), Int.emod_lt_of_pos _ (by omega)⟩

set_option maxRecDepth 100000 in
set_option maxHeartbeats 1600000 in
theorem mixBelow_walk (s k t a n : Int) (w : World) (hn0 : 0 ≤ n) (hn1 : n ≤ 18446744073709551615) :
    Calls Try.prog 6 #[.agg #[.int .u64 s, .int .u64 k, .int .u64 t, .int .u64 a], .int .u64 n] w fun e w' => e = .returned (.bool true) ∧ Below w.heap.size w w' := by
  by_cases h0 : n = 0
  · subst h0
    have hb : belowZ (drawZ s k t a) 0 = 0 := rfl
    have hr1 := below_any s k t a 0
    have hr2 := rbelow_any s k t a 0
    rw [hb] at hr1 hr2
    clear hb
    go_enter Try.func6, Try.ntmps6
    go_wp2_with (first
      | (go_at_call 14; refine (hr1 _ (by omega) (by omega)).mono ?_; rintro e w1 ⟨rfl, hB1⟩; obtain ⟨hc1, hf1⟩ := bext hB1; have hz1 := hB1.size; simp at hz1)
      | (go_at_call 15; refine (hr2 _ (by omega) (by omega)).mono ?_; rintro e w2 ⟨rfl, hB2⟩; clear hc1 hf1)
      | (go_at_call 12; refine (awake01_any _).mono ?_; rintro e w' ⟨rfl, rfl⟩))
    go_ret
    exact ⟨rfl, ((ext_alloc w _).trans (hB1.mono (by simp))).trans (hB2.mono (by omega))⟩
  · have hne : (n == 0) = false := by simpa using h0
    have hb := belowZ_lt (drawZ s k t a) n (by omega)
    have hr1 := below_any s k t a n
    have hr2 := rbelow_any s k t a n
    generalize belowZ (drawZ s k t a) n = x at *
    have hxx : (x == x) = true := by simp
    have hlt : decide (x < n) = true := by simpa using hb.2
    go_enter Try.func6, Try.ntmps6
    go_wp2_with (first
      | (go_at_call 14; refine (hr1 _ (by omega) (by omega)).mono ?_; rintro e w1 ⟨rfl, hB1⟩; obtain ⟨hc1, hf1⟩ := bext hB1; have hz1 := hB1.size; simp at hz1)
      | (go_at_call 15; refine (hr2 _ (by omega) (by omega)).mono ?_; rintro e w2 ⟨rfl, hB2⟩; clear hc1 hf1)
      | (go_at_call 12; refine (awake01_any _).mono ?_; rintro e w' ⟨rfl, rfl⟩))
    go_ret
    exact ⟨rfl, ((ext_alloc w _).trans (hB1.mono (by simp))).trans (hB2.mono (by omega))⟩

theorem pow_facts (d : Int) (hd : 0 ≤ d ∧ d ≤ 18446744073709551615) (j : Nat) (hj : j < 64) : ∃ n : Int, IntKind.u64.wrap (2 ^ j) = n ∧ 1 ≤ n ∧ n ≤ 18446744073709551615 ∧ belowZ d n = d % n := by
  have h1 : (2 ^ j : Nat) ≤ 2 ^ 63 := Nat.pow_le_pow_right (by omega) (by omega)
  have h0 : 0 < (2 ^ j : Nat) := Nat.pow_pos (by omega)
  have e : (2 ^ j : Int) = ((2 ^ j : Nat) : Int) := by rw [Int.natCast_pow]; rfl
  have hdv : (2 ^ 64 : Nat) = 2 ^ j * 2 ^ (64 - j) := by rw [← Nat.pow_add]; congr 1; omega
  generalize hp : (2 ^ j : Nat) = p at *
  have ho : overZ (p : Int) = 0 := by
    unfold overZ
    have h2 : (18446744073709551616 : Int) = (p : Int) * ((2 ^ (64 - j) : Nat) : Int) := by rw [← Int.natCast_mul, ← hdv]; rfl
    rw [h2, Int.mul_emod_right]
  refine ⟨p, by rw [e, u64_mod]; omega, by omega, by omega, ?_⟩
  unfold belowZ
  rw [if_neg (by omega), ho, findRow_hit (by show d ≤ _; omega)]
  rfl

set_option maxRecDepth 100000 in
set_option maxHeartbeats 1600000 in
theorem mixPowers_walk (s k t a q : Int) (w : World) (hq0 : 0 ≤ q) (hq1 : q ≤ 255) :
    Calls Try.prog 7 #[.agg #[.int .u64 s, .int .u64 k, .int .u64 t, .int .u64 a], .int .u8 q] w fun e w' => e = .returned (.bool true) ∧ Below w.heap.size w w' := by
  have hd := drawZ_bd s k t a
  obtain ⟨n, hn, hn0, hn1, hbn⟩ := pow_facts (drawZ s k t a) hd (q % 64).toNat (by omega)
  have hr1 := below_any s k t a n
  have hr2 := draw_any s k t a
  rw [hbn] at hr1
  have Hn := Lib.hid hn
  clear hn hbn
  generalize drawZ s k t a = d at *
  obtain ⟨hd0, hd1⟩ := hd
  have hxx : (d % n == d % n) = true := by simp
  have htm : d.tmod n = d % n := Int.tmod_eq_emod_of_nonneg hd0
  have hm0 := Int.emod_nonneg d (by omega : n ≠ 0)
  have hm1 := Int.emod_lt_of_pos d (by omega : 0 < n)
  have hnz : ¬ n = 0 := by omega
  have hs0 : w.heap.size < w.heap.size + 1 + 1 := by omega
  go_enter Try.func7, Try.ntmps7
  go_wp2_with fail
  rw [Hn.out]
  go_region_held3 (fun w' => w'.cell? ⟨w.heap.size, 0, none⟩ = some (.int .u64 s) ∧ w'.cell? ⟨w.heap.size, 1, none⟩ = some (.int .u64 k) ∧ w'.cell? ⟨w.heap.size, 2, none⟩ = some (.int .u64 t) ∧ w'.cell? ⟨w.heap.size, 3, none⟩ = some (.int .u64 a)) (go_keep)
    (first
      | (go_at_call 14; refine (hr1 _ (by omega) (by omega)).mono ?_; rintro e w1 ⟨rfl, hB1⟩; obtain ⟨hc1, hf1⟩ := bcell hB1; have hz1 := hB1.size; simp at hz1; have hz0 : w.heap.size < w1.heap.size := (by omega))
      | (go_at_call 10; refine (hr2 _).mono ?_; rintro e w2 ⟨rfl, hB2⟩; obtain ⟨hc2, hf2⟩ := bcell hB2)
      | (go_at_call 12; refine (awake01_any _).mono ?_; rintro e w' ⟨rfl, rfl⟩))
  go_wp2
  go_ret
  exact ⟨rfl, (((ext_alloc w _).drew).trans (hB1.mono (by simp))).trans (hB2.mono (by omega))⟩
end Go.Proofs.Ytockfbmhpdmlgaa
