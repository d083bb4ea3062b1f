/- TextPuts: the walk. -/
import Derived.Test.YtbleacpdobjdaaaTextPut
namespace Go.Proofs.Ytbleacpdobjdaaa
set_option linter.unusedSimpArgs false
set_option linter.unusedVariables false
open Go.RowKit

theorem Rd.conv {w : World} {ao : Option Addr} {l : List UInt8} (h : Rd w ao l.length (byteVals l)) (cap : Nat) : (convert 34 9 (.slice ao l.length cap)).run Try.prog w = .ok (.string (bs l)) w := by
  rcases h.2 with h2 | ⟨b, off, h1, _, hc⟩
  · obtain rfl := List.eq_nil_of_length_eq_zero h2
    cases ao with
    | none => exact run_string_of Try.underlying34 Try.underlying5 Try.underlying9 (.inl ⟨rfl, rfl⟩)
    | some a =>
      rw [run_convert_bytes_string w 34 9 5 _ _ _ Try.underlying34 Try.underlying5 Try.underlying9]
      have h2 : (loadCells a 0).run Try.prog w = .ok ((([] : List Int).map (Value.int .u8))).toArray w := by
        have h1 := run_firstCells_some (P := Try.prog) w 1 0 a 0 cap [] rfl (fun j u hu => by simp at hu)
        simp only [Builtin.firstCells, Nat.mul_one] at h1
        exact h1
      simp only [List.length_nil]
      rw [run_bytesToString w _ _ _ _ h2]
      rfl
  · refine run_string_of Try.underlying34 Try.underlying5 Try.underlying9 ?_
    exact .inr ⟨b, off, h1, fun j u hu => by rw [hc j (by have := (List.getElem?_eq_some_iff.1 hu).1; simpa [byteVals] using this), hu]⟩

theorem puts_below {w w1 w2 w3 : World} {o : Obj} {g1 : Option Nat} (hon1 : Only (fun k => some w.heap.size = some k) (w.alloc o) w1) (hg1 : g1 = some w.heap.size ∨ g1 = some (w.alloc o).heap.size)
    (hon2 : Only (fun k => g1 = some k) w1 w2) (hB3 : Below w2.heap.size w2 w3) : Below w.heap.size w w3 := by
  have hs0 : (w.alloc o).heap.size = w.heap.size + 1 := by simp
  have hs1 := hon1.size
  have hs2 := hon2.size
  have hb1 : Below w.heap.size (w.alloc o) w1 := hon1.below (by omega) (fun k hk e => by cases e; omega)
  have hb2 : Below w.heap.size w1 w2 := hon2.below (by omega) (fun k hk e => by
    subst e
    rcases hg1 with h | h
    · have := Option.some.inj h; omega
    · have := Option.some.inj h; omega)
  exact (((ext_alloc w o).trans hb1).trans hb2).trans (hB3.mono (by omega))

set_option maxRecDepth 100000 in
set_option maxHeartbeats 800000 in
theorem textPuts_walk (l : List UInt8) (n : Nat) (ao : Option Addr) (cap : Nat) (w : World) (hn : n < 18446744073709551616) (hr : Rd w ao l.length (byteVals l)) :
    Calls Try.prog 5 #[.slice ao l.length cap, .int .u64 n] w fun e w' => e = .returned (.bool true) ∧ Below w.heap.size w w' := by
  by_cases hl : 3000 < l.length
  · have hd : decide ((3000 : Int) < l.length) = true := by simp; omega
    go_enter Try.func5, Try.ntmps5
    go_wp2_with (go_at_call 15; refine (awake11_any _).mono ?_; rintro e w1 ⟨rfl, hB1⟩)
    go_ret
    exact ⟨rfl, hB1⟩
  have hd : decide ((3000 : Int) < l.length) = false := by simp; omega
  have hE := bytesElem
  have h20 := digits_20 n hn
  have ho0 := Own.emptyAt w 5 1 w.heap.size rfl
  have hsrc : Src Try.prog 1 34 (.slice ao l.length cap) l.length (byteVals l) (w.alloc (.cells #[] 5)) := (hr.ext (ext_alloc _ _)).src Try.underlying34 cap (byteVals_one l)
  have hP := fun ao cap g w ho => put_any l n (by omega) hn w ao cap g ho
  have hRP := rput_any n hn
  have hN := num_any (digits n) n (by omega) hn
  have hM := num_any (digits n) (n - 1) (by omega) (by omega)
  rw [num_digits, if_neg (by omega)] at hN
  rw [num_digits] at hM
  unfold numOut at hN hM
  have hcx := fun (w : World) ao cap g (h : Own w ao cap g 5 1 (l ++ digits n).length (byteVals (l ++ digits n))) => run_string_own (P := Try.prog) (src := 34) (dst := 9) Try.underlying34 Try.underlying5 Try.underlying9 h
  have hadd := str_add l (digits n) (by omega)
  have hxx : (l ++ digits n == l ++ digits n) = true := by simp
  have hlen : (l ++ digits n).length = l.length + (digits n).length := by simp
  have hnn : ((n : Int) == n) = true := by simp
  have Hr := Lib.hid hr
  have Hxx := Lib.hid hxx
  clear hr
  by_cases h0 : n = 0
  · subst h0
    have e0 : ((0 : Nat) : Int) = 0 := rfl
    clear hM h20 hnn
    simp only [e0] at hP hRP hN ⊢
    clear e0 hn
    generalize digits 0 = d at *
    generalize hld : l ++ d = ld at *
    have Hcx := Lib.hid hcx
    clear hcx hld
    go_enter Try.func5, Try.ntmps5
    go_wp2_with (first
      | (at_builtin; refine wpList_app rfl (.tmp 15) (.tmp 16) 34 34 rfl hE ho0 rfl rfl hsrc (by simp [maxLen]; omega) (by omega) ?_; intro ao1 cap1 g1 w1 ho1 hg1 hon1; simp only [Nat.zero_add, List.nil_append] at ho1 ⊢)
      | (go_at_call 21; refine (hP _ _ _ _ ho1).mono ?_; rintro e w2 ⟨ao2, cap2, g2, rfl, ho2, hg2, hon2⟩; rw [← hlen] at ho2 ⊢)
      | (go_at_call 22; refine (hRP _).mono ?_; rintro e w3 ⟨rfl, hB3⟩; have ho3 := ho2.ext hB3)
      | (go_at_call 19; refine (hN _).mono ?_; rintro e w4 ⟨rfl, hB4⟩; have ho4 := Hcx.out _ _ _ _ (ho3.ext hB4); rw [hlen] at ho4; have hb3 := puts_below hon1 hg1 hon2 hB3; have hbb := hb3.trans (hB4.mono hb3.size); have hc4 := (Hr.out.ext hbb).conv cap)
      | (go_at_call 15; refine (awake11_any _).mono ?_; rintro e w5 ⟨rfl, hB5⟩))
    go_ret
    exact ⟨rfl, hbb.trans (hB5.mono hbb.size)⟩
  · have hz : 0 < n := by omega
    have hz1 : 1 ≤ n := hz
    rw [if_pos (by omega)] at hM
    rw [show ((n - 1 : Nat) : Int) = (n : Int) - 1 from by omega] at hM
    have hw1 : (1 : Int) ≤ n := by omega
    have hw2 : (n : Int) < 18446744073709551616 := by omega
    clear h0 h20
    generalize digits n = d at *
    generalize hld : l ++ d = ld at *
    have Hcx := Lib.hid hcx
    clear hcx hld
    go_enter Try.func5, Try.ntmps5
    go_wp2_with (first
      | (at_builtin; refine wpList_app rfl (.tmp 15) (.tmp 16) 34 34 rfl hE ho0 rfl rfl hsrc (by simp [maxLen]; omega) (by omega) ?_; intro ao1 cap1 g1 w1 ho1 hg1 hon1; simp only [Nat.zero_add, List.nil_append] at ho1 ⊢)
      | (go_at_call 21; refine (hP _ _ _ _ ho1).mono ?_; rintro e w2 ⟨ao2, cap2, g2, rfl, ho2, hg2, hon2⟩; rw [← hlen] at ho2 ⊢)
      | (go_at_call 22; refine (hRP _).mono ?_; rintro e w3 ⟨rfl, hB3⟩; have ho3 := ho2.ext hB3)
      | (go_at_call 19; refine (hN _).mono ?_; rintro e w3b ⟨rfl, hB3b⟩; clear hN; have ho3 := ho3.ext hB3b)
      | (go_at_call 19; refine (hM _).mono ?_; rintro e w4 ⟨rfl, hB4⟩; have ho4 := Hcx.out _ _ _ _ (ho3.ext hB4); rw [hlen] at ho4; have hb3a := puts_below hon1 hg1 hon2 hB3; have hb3 := hb3a.trans (hB3b.mono hb3a.size); have hbb := hb3.trans (hB4.mono hb3.size); have hc4 := (Hr.out.ext hbb).conv cap)
      | (go_at_call 15; refine (awake11_any _).mono ?_; rintro e w5 ⟨rfl, hB5⟩))
    go_ret
    exact ⟨rfl, hbb.trans (hB5.mono hbb.size)⟩
end Go.Proofs.Ytbleacpdobjdaaa
