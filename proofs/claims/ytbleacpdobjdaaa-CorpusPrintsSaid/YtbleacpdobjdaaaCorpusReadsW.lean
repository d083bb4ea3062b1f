/- palmerlaw28.CorpusReads: the walk. -/
import Derived.Test.YtbleacpdobjdaaaCorpReadW
import Derived.Test.YtbleacpdobjdaaaCorpLaw1
namespace Go.Proofs.Ytbleacpdobjdaaa
set_option linter.unusedSimpArgs false
set_option linter.unusedVariables false
open Go.RowKit

theorem readGo_size (B : Nat) : ∀ (ls : List (List UInt8)) (out : List PathD) (k : Nat), (∀ x ∈ ls, x.length ≤ B) → (∀ p ∈ out, p.2.length ≤ B) → (readGo out k ls).1.length ≤ out.length + ls.length ∧ ∀ p ∈ (readGo out k ls).1, p.2.length ≤ B
  | [], out, k, _, ho => ⟨by simp [readGo], by simpa [readGo] using ho⟩
  | l :: ls, out, k, hl, ho => by
    by_cases he : lineErr out l = 0
    · obtain ⟨_, _, v, vs, _, _, hp, _, _, hw⟩ := line_ok he
      rw [readGo_ok he]
      have hlen : vs.length ≤ B := by have := words_len l; have := hl l (by simp); omega
      obtain ⟨h1, h2⟩ := readGo_size B ls (out ++ [pathOf l]) (k + 1) (fun x hx => hl x (by simp [hx])) (fun p hp' => by
        rcases List.mem_append.1 hp' with h | h
        · exact ho p h
        · rw [List.mem_singleton.1 h, hp]; exact hlen)
      exact ⟨by simp at h1 ⊢; omega, h2⟩
    · rw [readGo_bad he]
      exact ⟨by simp, by simp⟩
theorem readL_size (l : List UInt8) : (readL (lines l)).1.length ≤ l.length ∧ ∀ p ∈ (readL (lines l)).1, p.2.length ≤ l.length := by
  obtain ⟨h1, h2⟩ := readGo_size l.length (lines l) [] 0 (lines_mem l) (by simp)
  exact ⟨by have := lines_len l; unfold readL; simp at h1; omega, h2⟩

set_option maxRecDepth 100000 in
set_option maxHeartbeats 1600000 in
theorem corpusReads_walk (l : List UInt8) (ao : Option Addr) (cap : Nat) (w : World) (hrd : Rd w ao l.length (byteVals l)) (hcap : l.length ≤ cap) (hcm : cap ≤ maxLen) :
    Calls Try.prog 13 #[.slice ao l.length cap] w fun e w' => e = .returned (.bool true) ∧ Below w.heap.size w w' := by
  by_cases hl : 3000 < l.length
  · have hd : decide ((3000 : Int) < l.length) = true := by simp; omega
    clear hrd
    go_enter Try.func13, Try.ntmps13
    go_wp2_with (go_at_call 27; refine (awake28_any _).mono ?_; rintro e w1 ⟨rfl, hB1⟩)
    go_ret
    exact ⟨rfl, hB1⟩
  · have hd : decide ((3000 : Int) < l.length) = false := by simp; omega
    have hR1 := read_any l (by omega) ao cap w hrd hcap hcm
    have hR2 := fun (W : World) (hB : Below w.heap.size w W) => rread_any l (by omega) ao cap W (hrd.ext hB)
    obtain ⟨hz1, hz2⟩ := readL_size l
    generalize readL (lines l) = r at hR1 hR2 hz1 hz2
    obtain ⟨L, n, er⟩ := r
    simp only at hz1 hz2
    have hlen : L.length ≤ 1073741824 := by omega
    have hrows : ∀ p ∈ L, p.2.length ≤ 1073741824 := fun p hp => by have := hz2 p hp; omega
    have hee : ((er : Int) == er) = true := by simp
    have hnn : ((n : Int) == n) = true := by simp
    have HR1 := Lib.hid hR1
    have HR2 := Lib.hid hR2
    have Hrows := Lib.hid hrows
    clear hR1 hR2 hz1 hz2 hrows hrd
    go_enter Try.func13, Try.ntmps13
    go_wp2_with (first
      | (go_at_call 37; refine HR1.out.mono ?_; rintro e w1 ⟨a1, c1, rfl, h1, h2, hr1, hB1⟩; have Hr1 := Lib.hid hr1; have HB1 := Lib.hid hB1; clear h1 h2 hr1 hB1)
      | (go_at_call 38; refine (HR2.out _ HB1.out).mono ?_; rintro e w2 ⟨a2, c2, rfl, h1, h2, hr2, hB2⟩; have Hr2 := Lib.hid hr2; have HB2 := Lib.hid hB2; clear h1 h2 hr2 hB2)
      | (go_at_call 30; refine (same28_any L a1 a2 c1 c2 _ _ _ hlen Hrows.out (Hr1.out.ext HB2.out) Hr2.out).mono ?_; rintro e w3 ⟨rfl, hB3⟩; have HB3 := Lib.hid hB3; clear hB3)
      | (go_at_call 27; refine (awake28_any _).mono ?_; rintro e w4 ⟨rfl, hB4⟩))
    go_ret
    exact ⟨rfl, ext_trans (ext_trans (ext_trans HB1.out HB2.out) HB3.out) hB4⟩
end Go.Proofs.Ytbleacpdobjdaaa
