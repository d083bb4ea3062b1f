/- awake, TextWords, TextNums: the walks. -/
import Derived.Test.YtbleacpdobjdaaaTextRefN
namespace Go.Proofs.Ytbleacpdobjdaaa
set_option linter.unusedSimpArgs false
set_option linter.unusedVariables false
open Go.RowKit

set_option maxRecDepth 100000 in
set_option maxHeartbeats 1600000 in
theorem awake11_any (w : World) : Calls Try.prog 15 #[] w fun e w' => e = .returned (.bool true) ∧ Below w.heap.size w w' := by
  have hW := words_any [32, 97, 9, 98, 32] (by decide)
  have hw : words [32, 97, 9, 98, 32] = [[97], [98]] := by decide
  rw [hw] at hW
  have hN := num_any [48, 48, 55] 10 (by decide) (by decide)
  have hn : num [48, 48, 55] 10 = (0, 3) := by decide
  rw [hn] at hN
  go_enter Try.func15, Try.ntmps15
  go_wp2_with (first
    | (go_at_call 17; refine (hW _).mono ?_; rintro e w1 ⟨ao, cap, g, rfl, ho, hg, hB1⟩; obtain ⟨b, rfl, rfl, hb⟩ := ho.pos (by decide); have hc0 : w1.cell? ⟨b, 0, none⟩ = some (.string (bs [97])) := ho.cell 0 (by decide); have hc1 : w1.cell? ⟨b, 1, none⟩ = some (.string (bs [98])) := ho.cell 1 (by decide); simp only [List.length_cons, List.length_nil])
    | (go_at_call 19; refine (hN _).mono ?_; rintro e w2 ⟨rfl, hB2⟩; have hd0 := (hB2.cell (p := ⟨b, 0, none⟩) hb).trans hc0; have hd1 := (hB2.cell (p := ⟨b, 1, none⟩) hb).trans hc1; unfold numOut))
  go_ret
  exact ⟨rfl, hB1.trans (hB2.mono hB1.size)⟩

set_option maxRecDepth 100000 in
set_option maxHeartbeats 1600000 in
theorem textWords_walk (l : List UInt8) (w : World) : Calls Try.prog 3 #[.string (bs l)] w fun e w' => e = .returned (.bool true) ∧ Below w.heap.size w w' := by
  have hsz := bs_size l
  by_cases hl : 3000 < l.length
  · have hd : decide ((3000 : Int) < l.length) = true := by simp; omega
    go_enter Try.func3, Try.ntmps3
    go_wp2_with (go_at_call 15; refine (awake11_any _).mono ?_; rintro e w1 ⟨rfl, hB1⟩)
    go_ret
    exact ⟨rfl, hB1⟩
  · have hd : decide ((3000 : Int) < l.length) = false := by simp; omega
    have hW := words_any l (by omega)
    have hR := rwords_any l (by omega)
    have hwl := words_len l
    have hS := fun ao bo ca cb w h1 h2 => same_any (words l) (words l) ao bo ca cb w h1 h2 (by omega) (by omega)
    rw [decide_eq_true rfl] at hS
    generalize words l = x at *
    go_enter Try.func3, Try.ntmps3
    go_wp2_with (first
      | (go_at_call 17; refine (hW _).mono ?_; rintro e w1 ⟨ao, cap, g, rfl, ho, hg, hB1⟩)
      | (go_at_call 18; refine (hR _).mono ?_; rintro e w2 ⟨bo, cap2, g2, rfl, ho2, hg2, hB2⟩; have ho := ho.ext hB2)
      | (go_at_call 16; refine (hS _ _ _ _ _ ho.rd ho2.rd).mono ?_; rintro e w3 ⟨rfl, hB3⟩)
      | (go_at_call 15; refine (awake11_any _).mono ?_; rintro e w4 ⟨rfl, hB4⟩))
    go_ret
    have s1 := hB1.size
    have s2 := hB2.size
    have s3 := hB3.size
    exact ⟨rfl, ((hB1.trans (hB2.mono (by omega))).trans (hB3.mono (by omega))).trans (hB4.mono (by omega))⟩

set_option maxRecDepth 100000 in
set_option maxHeartbeats 1600000 in
theorem textNums_walk (l : List UInt8) (most : Nat) (hm : most < 18446744073709551616) (w : World) : Calls Try.prog 4 #[.string (bs l), .int .u64 most] w fun e w' => e = .returned (.bool true) ∧ Below w.heap.size w w' := by
  have hsz := bs_size l
  by_cases hl : 3000 < l.length
  · have hd : decide ((3000 : Int) < l.length) = true := by simp; omega
    go_enter Try.func4, Try.ntmps4
    go_wp2_with (go_at_call 15; refine (awake11_any _).mono ?_; rintro e w1 ⟨rfl, hB1⟩)
    go_ret
    exact ⟨rfl, hB1⟩
  · have hd : decide ((3000 : Int) < l.length) = false := by simp; omega
    have hN := num_any l most (by omega) hm
    have hR := rnum_any l most (by omega) hm
    have h1 : (num l most).1 < 18446744073709551616 ∧ (num l most).2 < 10 := by
      unfold num
      split
      · decide
      · split
        · decide
        · exact ⟨by show val l < _; omega, by show 0 < 10; omega⟩
    obtain ⟨h1, h2⟩ := h1
    unfold numOut at hN hR
    generalize (num l most).1 = x at *
    generalize (num l most).2 = y at *
    have hxx : ((x : Int) == x) = true := by simp
    have hyy : ((y : Int) == y) = true := by simp
    go_enter Try.func4, Try.ntmps4
    go_wp2_with (first
      | (go_at_call 19; refine (hN _).mono ?_; rintro e w1 ⟨rfl, hB1⟩)
      | (go_at_call 20; refine (hR _).mono ?_; rintro e w2 ⟨rfl, rfl⟩)
      | (go_at_call 15; refine (awake11_any _).mono ?_; rintro e w4 ⟨rfl, hB4⟩))
    go_ret
    exact ⟨rfl, hB1.trans (hB4.mono hB1.size)⟩
end Go.Proofs.Ytbleacpdobjdaaa
