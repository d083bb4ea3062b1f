/- corpus.numbers. -/
import Derived.Test.YtbleacpdobjdaaaCorpLaw1
namespace Go.Proofs.Ytbleacpdobjdaaa
set_option linter.unusedSimpArgs false
set_option linter.unusedVariables false
open Go.RowKit

/-- words' numbers, up to an error -/
def numsGo : List Nat → List (List UInt8) → List Nat × Nat
  | acc, [] => (acc, 0)
  | acc, x :: xs => if (num x 4294967295).2 ≠ 0 then ([], (num x 4294967295).2) else numsGo (acc ++ [(num x 4294967295).1]) xs
def nums (ws : List (List UInt8)) : List Nat × Nat := numsGo [] ws
theorem numsGo_bad {acc : List Nat} {x : List UInt8} {xs : List (List UInt8)} (h : (num x 4294967295).2 ≠ 0) : numsGo acc (x :: xs) = ([], (num x 4294967295).2) := by simp [numsGo, h]
theorem numsGo_ok {acc : List Nat} {x : List UInt8} {xs : List (List UInt8)} (h : (num x 4294967295).2 = 0) : numsGo acc (x :: xs) = numsGo (acc ++ [(num x 4294967295).1]) xs := by simp [numsGo, h]
theorem num_le (x : List UInt8) (m : Nat) : (num x m).1 ≤ m ∧ ((num x m).2 = 0 ∨ (num x m).2 = 3 ∨ (num x m).2 = 9) := by
  unfold num; split
  · simp
  · split
    · simp
    · exact ⟨by simp; omega, .inl rfl⟩

/-- what a call that hands back numbers and an error leaves -/
def NumsRet (r : List Nat × Nat) (w : World) (e : Ending) (w' : World) : Prop :=
  ∃ ao cap g, e = .returned (.tuple #[.slice ao r.1.length cap, .int .i64 (r.2 : Nat)]) ∧ Own w' ao cap g 45 1 r.1.length (u32Vals r.1) ∧ (∀ k, g = some k → w.heap.size ≤ k) ∧ Below w.heap.size w w'
def numsI (ws : List (List UInt8)) (w : World) (o i : Value) (wr : World) : Prop :=
  ∃ (k : Nat) (acc : List Nat) (ao : Option Addr) (cap : Nat) (g : Option Nat), k ≤ ws.length ∧ i = .int .i64 (k : Nat) ∧ o = .slice ao acc.length cap ∧ acc.length = k ∧ numsGo acc (ws.drop k) = nums ws ∧
    Own wr ao cap g 45 1 acc.length (u32Vals acc) ∧ (∀ k, g = some k → w.heap.size ≤ k) ∧ Below w.heap.size w wr

set_option maxRecDepth 100000 in
set_option maxHeartbeats 1600000 in
theorem numbers_any (ws : List (List UInt8)) (ao : Option Addr) (cap : Nat) (w : World) (hl : ws.length ≤ 1073741824) (hall : ∀ x ∈ ws, x.length ≤ 1073741824) (hrd : Rd w ao ws.length (strCells ws)) :
    Calls Try.prog 53 #[.slice ao ws.length cap] w (NumsRet (nums ws) w) := by
  have hE := u32Elem
  have Hrd := Lib.hid hrd
  have Hall := Lib.hid hall
  clear hrd hall
  go_enter Try.func53, Try.ntmps53
  go_wp2_with fail
  go_loopw [4, 11] (fun o i wr => numsI ws w o i wr) (fun _ i _ => ws.length - (intOf i).toNat)
  case atStart => exact ⟨0, [], none, 0, none, by omega, rfl, rfl, rfl, rfl, Own.nil _ _ _, (fun k h => by cases h), Below.refl _ _⟩
  case round =>
    obtain ⟨k, acc, ao', cap', g, hk, rfl, rfl, hal, hgo, hown, hg, hB⟩ := hrel
    have Hown := Lib.hid hown
    have Hg := Lib.hid hg
    have HB := Lib.hid hB
    have Hal := Lib.hid hal
    by_cases hlt : k < ws.length
    · obtain ⟨b, off, rfl, hb, hc⟩ := Hrd.out.pos (by omega)
      have hcell := (((bcell HB.out).1 b (off + k) hb).trans (hc k hlt))
      rw [List.drop_eq_getElem_cons hlt] at hgo
      have hx := Hall.out ws[k] (List.getElem_mem hlt)
      simp only [strCells, List.getElem?_map, List.getElem?_eq_getElem hlt, Option.map_some] at hcell
      obtain ⟨x, hxe⟩ : ∃ x, ws[k] = x := ⟨_, rfl⟩
      rw [hxe] at hgo hx hcell
      have hir : (k : Int) < (ws.length : Int) := by omega
      have hnl := num_le x 4294967295
      have hN := num_any x 4294967295 hx (by omega)
      by_cases he : (num x 4294967295).2 = 0
      · rw [numsGo_ok he] at hgo
        obtain ⟨⟨v, e⟩, hne⟩ : ∃ r, num x 4294967295 = r := ⟨_, rfl⟩
        rw [hne] at hgo hnl hN he
        simp only at hgo hnl he
        subst he
        simp only [numOut] at hN
        have hv : v ≤ 4294967295 := hnl.1
        have Hgo := Lib.hid hgo
        have HN := Lib.hid hN
        have hal2 : acc.length ≤ 1073741824 := by omega
        have u1 : IntKind.u32.wrap ((v : Nat) : Int) = ((v : Nat) : Int) := IntWalk.u32_in _ (by omega)
        clear hown hg hB hal hxe hgo hN hne hnl hc
        go_wp2_with (first
          | (go_at_call 19; refine (HN.out _).mono ?_; rintro e w1 ⟨rfl, hB1⟩; have HB1 := Lib.hid hB1; clear hB1)
          | (at_builtin; refine wpList_app rfl (.tmp 23) (.tmp 26) 62 62 rfl hE ((Hown.out.ext HB1.out).alloc _) rfl rfl (srcOne Try.underlying62 w1 (.int .u32 (v : Nat)) 45 1 rfl) (by simp [maxLen]; omega) (by omega) ?_; intro ao3 cap3 g3 W3 ho3 hg3 hon3; have Ho3 := Lib.hid ho3; have Hg3 := Lib.hid hg3; have Hon3 := Lib.hid hon3; clear ho3 hg3 hon3))
        go_roundw
        case rel =>
          have hs1 := HB1.out.size
          have hs0 := HB.out.size
          have hon : Only (fun k => g = some k) w1 W3 := (Only.of_below (ext_alloc w1 _)).trans Hon3.out (fun _ _ h => h)
          refine ⟨k + 1, acc ++ [v], ao3, cap3, g3, by omega, by go_num, by simp, by simp [Hal.out], Hgo.out, by simpa [u32Vals] using Ho3.out, fun j hj => ?_, ?_⟩
          · rcases Hg3.out with e | e <;> rw [e] at hj
            · exact Hg.out j hj
            · cases hj; simp; omega
          · exact (HB.out.trans (HB1.out.mono hs0)).trans (hon.below (by omega) (fun j hj e => by have := Hg.out j e; omega))
        case measure => simp [intOf]; omega
      · rw [numsGo_bad he] at hgo
        obtain ⟨⟨v, e⟩, hne⟩ : ∃ r, num x 4294967295 = r := ⟨_, rfl⟩
        rw [hne] at hgo hnl hN he
        simp only at hgo hnl he
        simp only [numOut] at hN
        have hd : ((e : Int) != 0) = true := by simp; omega
        have Hgo := Lib.hid hgo
        have HN := Lib.hid hN
        clear hown hg hB hal hxe hgo hN hne hnl hc he
        go_wp2_with (go_at_call 19; refine (HN.out _).mono ?_; rintro e w1 ⟨rfl, hB1⟩; have HB1 := Lib.hid hB1; clear hB1)
        go_ret2
        rw [← Hgo.out]
        exact ⟨none, 0, none, rfl, Own.nil _ _ _, (fun k h => by cases h), ext_trans HB.out HB1.out⟩
    · obtain rfl : k = ws.length := by omega
      rw [List.drop_length] at hgo
      have Hgo := Lib.hid hgo
      clear hown hg hB hal hgo
      go_wp2_with fail
      go_ret2
      rw [← Hgo.out]
      exact ⟨ao', cap', g, rfl, Hown.out, Hg.out, HB.out⟩
end Go.Proofs.Ytbleacpdobjdaaa
