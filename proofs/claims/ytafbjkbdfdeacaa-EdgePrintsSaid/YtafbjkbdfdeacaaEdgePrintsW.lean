/- palmerlaw12.EdgePrints: the walk. -/
import Derived.Test.YtafbjkbdfdeacaaEdgeLaw1
import Derived.Test.YtafbjkbdfdeacaaEdgePrintR
import Derived.Deep.RegionWith
namespace Go.Proofs.Ytafbjkbdfdeacaa
set_option linter.unusedSimpArgs false
set_option linter.unusedVariables false
open Go.RowKit

set_option maxRecDepth 100000 in
set_option maxHeartbeats 3200000 in
theorem edgePrints_walk (l : List EdgeD) (ao : Option Addr) (cap : Nat) (w : World) (hrd : RdS edgeRep (fun b => b < w.heap.size) w ao l) :
    Calls Try.prog 13 #[.slice ao l.length cap] w fun e w' => e = .returned (.bool true) ∧ Below w.heap.size w w' := by
  by_cases hl : 300 < l.length
  · have hd : decide ((300 : Int) < l.length) = true := by simp; omega
    clear hrd
    go_enter Try.func13, Try.ntmps13
    go_wp2_with (go_at_call 29; refine (awake12_any _).mono ?_; rintro e w1 ⟨rfl, hB1⟩)
    go_ret
    exact ⟨rfl, hB1⟩
  · have hd : decide ((300 : Int) < l.length) = false := by simp; omega
    have hok : ∀ x ∈ l, okE x := fun x hx => by
      obtain ⟨j, hj, rfl⟩ := List.mem_iff_getElem.1 hx
      obtain ⟨_, _, _, _, _, _, _, h⟩ := hrd.edge j hj
      exact h
    have hlen : l.length ≤ 1073741824 := by omega
    have hpl : (printE l).length ≤ 9900 := by have := printE_len l hok; omega
    have hP1 := eprint_any l ao cap _ w hlen (by omega) hrd
    have hP2 := fun (W : World) (hB : Below w.heap.size w W) => erprint_any l ao cap _ W hlen (by omega) (hrd.ext hB)
    have hRd := fun ao1 cap1 (W : World) h1 h2 h3 => eread_any (printE l) (by omega) ao1 cap1 W h1 h2 h3
    have hMay := fun (W : World) (hB : Below w.heap.size w W) => emay_any l ao cap _ W hlen (hrd.ext hB)
    have hcase := readE_printE l hok
    have HP1 := Lib.hid hP1
    have HP2 := Lib.hid hP2
    have Hrd := Lib.hid hrd
    clear hok hP1 hP2 hrd
    generalize printE l = B at hRd HP1 HP2 hpl hcase
    rcases hcase with ⟨hm, hr⟩ | ⟨hm, n, hr, hn1, hn2⟩
    · rw [allMay_yes hm] at hMay
      rw [hr] at hRd
      have HMay := Lib.hid hMay
      have HRd := Lib.hid hRd
      clear hMay hRd hm hr
      go_enter Try.func13, Try.ntmps13
      go_wp2_with (go_at_call 37; refine HP1.out.mono ?_; rintro e w1 ⟨a1, c1, g1, rfl, ho1, hg1, hB1⟩; have Ho1 := Lib.hid ho1; have HB1 := Lib.hid hB1; clear ho1 hg1 hB1)
      have ea := run_string_own (P := Try.prog) (src := 25) (dst := 9) (W := B) Try.underlying25 Try.underlying5 Try.underlying9 (Ho1.out.ext (ext_drew w1))
      go_region_with ((go_at_call 38; refine (HP2.out _ (HB1.out.trans ((ext_drew _).mono HB1.out.size))).mono ?_; rintro e w2 ⟨a2, c2, g2, rfl, ho2, hg2, hB2⟩; have HBp := Lib.hid ((ext_drew w1).trans hB2); have HB2 := Lib.hid (HB1.out.trans (HBp.out.mono HB1.out.size)); have eb := run_string_own (P := Try.prog) (src := 25) (dst := 9) (W := B) Try.underlying25 Try.underlying5 Try.underlying9 (Ho1.out.ext HBp.out); have ec := run_string_own (P := Try.prog) (src := 25) (dst := 9) (W := B) Try.underlying25 Try.underlying5 Try.underlying9 ho2; clear hB2 ho2 hg2))
      all_goals
        go_wp2_with (first
          | (go_at_call 32; refine (HRd.out _ _ _ (Ho1.out.rd.ext HBp.out) Ho1.out.capLe.1 Ho1.out.capLe.2).mono ?_; rintro e w3 ⟨a3, c3, rfl, h1, h2, hr3, hB3⟩; have HB3 := Lib.hid (HB2.out.trans (hB3.mono HB2.out.size)); have Hr3 := Lib.hid hr3; clear h1 h2 hr3 hB3)
          | (go_at_call 35; refine (HMay.out _ HB3.out).mono ?_; rintro e w4 ⟨rfl, rfl⟩)
          | (go_at_call 34; refine (esame_any l a3 ao c3 cap _ _ _ hlen Hr3.out (Hrd.out.ext HB3.out)).mono ?_; rintro e w6 ⟨rfl, hB6⟩; have HB6 := Lib.hid hB6; clear hB6)
          | (go_at_call 29; refine (awake12_any _).mono ?_; rintro e w8 ⟨rfl, hB8⟩))
        go_ret
        exact ⟨rfl, ext_trans (ext_trans HB3.out HB6.out) hB8⟩
    · rw [allMay_no hm] at hMay
      rw [hr] at hRd
      have HMay := Lib.hid hMay
      have HRd := Lib.hid hRd
      have ht1 : decide ((0 : Int) < (n : Int)) = true := decide_eq_true (by omega)
      have ht2 : decide ((n : Int) ≤ (l.length : Int)) = true := decide_eq_true (by omega)
      have ht3 : decide (n ≤ l.length) = true := decide_eq_true hn2
      have ht4 : decide (0 < n) = true := decide_eq_true hn1
      clear hMay hRd hm hr
      go_enter Try.func13, Try.ntmps13
      go_wp2_with (go_at_call 37; refine HP1.out.mono ?_; rintro e w1 ⟨a1, c1, g1, rfl, ho1, hg1, hB1⟩; have Ho1 := Lib.hid ho1; have HB1 := Lib.hid hB1; clear ho1 hg1 hB1)
      have ea := run_string_own (P := Try.prog) (src := 25) (dst := 9) (W := B) Try.underlying25 Try.underlying5 Try.underlying9 (Ho1.out.ext (ext_drew w1))
      go_region_with ((go_at_call 38; refine (HP2.out _ (HB1.out.trans ((ext_drew _).mono HB1.out.size))).mono ?_; rintro e w2 ⟨a2, c2, g2, rfl, ho2, hg2, hB2⟩; have HBp := Lib.hid ((ext_drew w1).trans hB2); have HB2 := Lib.hid (HB1.out.trans (HBp.out.mono HB1.out.size)); have eb := run_string_own (P := Try.prog) (src := 25) (dst := 9) (W := B) Try.underlying25 Try.underlying5 Try.underlying9 (Ho1.out.ext HBp.out); have ec := run_string_own (P := Try.prog) (src := 25) (dst := 9) (W := B) Try.underlying25 Try.underlying5 Try.underlying9 ho2; clear hB2 ho2 hg2))
      all_goals
        go_wp2_with (first
          | (go_at_call 32; refine (HRd.out _ _ _ (Ho1.out.rd.ext HBp.out) Ho1.out.capLe.1 Ho1.out.capLe.2).mono ?_; rintro e w3 ⟨a3, c3, rfl, h1, h2, hr3, hB3⟩; have HB3 := Lib.hid (HB2.out.trans (hB3.mono HB2.out.size)); have Hr3 := Lib.hid hr3; clear h1 h2 hr3 hB3)
          | (go_at_call 35; refine (HMay.out _ HB3.out).mono ?_; rintro e w4 ⟨rfl, rfl⟩)
          | (go_at_call 29; refine (awake12_any _).mono ?_; rintro e w8 ⟨rfl, hB8⟩))
        go_ret
        exact ⟨rfl, ext_trans HB3.out hB8⟩
end Go.Proofs.Ytafbjkbdfdeacaa
