/- palmerlaw28.CorpusPrints: the walk. -/
import Derived.Test.YtbleacpdobjdaaaCorpusReadsW
import Derived.Test.YtbleacpdobjdaaaCorpReadPlain
import Derived.Test.YtbleacpdobjdaaaCorpGapsW
namespace Go.Proofs.Ytbleacpdobjdaaa
set_option linter.unusedSimpArgs false
set_option linter.unusedVariables false
open Go.RowKit

set_option maxRecDepth 100000 in
set_option maxHeartbeats 3200000 in
theorem corpusPrints_walk (l : List PathD) (ao : Option Addr) (cap : Nat) (w : World) (hrd : RdS pathRep (fun b => b < w.heap.size) w ao l) :
    Calls Try.prog 14 #[.slice ao l.length cap] w fun e w' => e = .returned (.bool true) ∧ Below w.heap.size w w' := by
  by_cases hf : FewP l
  · have hFew : Calls Try.prog 34 #[.slice ao l.length cap] w fun e w' => e = .returned (.bool true) ∧ w = w' := by rw [← fewB_yes hf]; exact few_any l ao cap _ w hrd
    have hok := okData_of hf hrd
    have hlen : l.length ≤ 1073741824 := by have := hf.1; omega
    have hrows : ∀ p ∈ l, p.2.length ≤ 1073741824 := fun p hp => by have := (hok p hp).2.2; omega
    have hpl : (printP l).length ≤ 50000 := by have := printP_len l hok; have := hf.1; omega
    have hP1 := fun (W : World) (hB : Below w.heap.size w W) => print28_any l ao cap W hlen hrows (by omega) ((hrd.ext hB).mono (fun b hb _ => Nat.lt_of_lt_of_le hb hB.size))
    have hP2 := fun (W : World) (hB : Below w.heap.size w W) => rprint28_any l ao cap W hlen hrows (by omega) ((hrd.ext hB).mono (fun b hb _ => Nat.lt_of_lt_of_le hb hB.size))
    have hRd := fun ao1 cap1 (W : World) h1 h2 h3 => read_any (printP l) hpl ao1 cap1 W h1 h2 h3
    have hcase := read_print l hok
    have HFew := Lib.hid hFew
    have HP1 := Lib.hid hP1
    have Hf := Lib.hid hf
    have HP2 := Lib.hid hP2
    have Hok := Lib.hid hok
    have Hrows := Lib.hid hrows
    have Hrd := Lib.hid hrd
    have hlt : (l.length : Int) ≤ 60 := by have := hf.1; omega
    clear hFew hok hrows hP1 hP2 hf
    generalize printP l = B at hRd HP1 HP2 hpl hcase
    rcases hcase with ⟨hm, hr⟩ | ⟨hm, n, er, hr, hn1, hn2, he⟩
    · have hMay := fun (W : World) (hB : Below w.heap.size w W) => may_any l ao cap _ W hlen (hrd.ext hB)
      rw [mayB_yes hm] at hMay
      have HMay := Lib.hid hMay
      rw [hr] at hRd
      have HRd := Lib.hid hRd
      have hRc := fun (W : World) (hB : Below w.heap.size w W) => recs_any l ao cap W Hf.out ((hrd.ext hB).mono (fun b hb _ => Nat.lt_of_lt_of_le hb hB.size))
      have hPw := paths_whole l Hok.out ((may_iff l).1 hm)
      have hRl := recsOf_len l Hf.out.rows
      generalize recsOf l = R at hRc hPw hRl
      have hPt : ∀ ao1 cap1 W, RdS (Rep.slice Rep.u8) (fun k => k < W.heap.size) W ao1 R → Calls Try.prog 28 #[.slice ao1 R.length cap1] W (PathsRet (l, 0) W) := fun ao1 cap1 W h => by
        have := paths_any R ao1 cap1 W (by omega) h
        rw [hPw] at this
        exact this
      have HRc := Lib.hid hRc
      have HPt := Lib.hid hPt
      clear hMay hRd hRc hPw hPt hrd hm hr
      go_enter Try.func14, Try.ntmps14
      go_wp2_with (first
        | (go_at_call 34; refine HFew.out.mono ?_; rintro e w1 ⟨rfl, rfl⟩)
        | (go_at_call 39; refine (HP1.out _ (Below.refl _ _)).mono ?_; rintro e w1 ⟨a1, c1, g1, rfl, ho1, hg1, hB1⟩; have Ho1 := Lib.hid ho1; have HB1 := Lib.hid hB1; clear ho1 hg1 hB1))
      have ea := run_string_own (P := Try.prog) (src := 34) (dst := 9) (W := B) Try.underlying34 Try.underlying5 Try.underlying9 (Ho1.out.ext (ext_drew w1))
      go_region_held3 (fun w' => (convert 34 9 (.slice a1 B.length c1)).run Try.prog w' = .ok (.string (bs B)) w') (first | exact ea | exact eb)
        ((go_at_call 40; refine (HP2.out _ (HB1.out.trans ((ext_drew _).mono HB1.out.size))).mono ?_; rintro e w2 ⟨rfl, hB2⟩; have HBp := Lib.hid ((ext_drew w1).trans hB2); have HB2 := Lib.hid (HB1.out.trans (HBp.out.mono HB1.out.size)); have eb := run_string_own (P := Try.prog) (src := 34) (dst := 9) (W := B) Try.underlying34 Try.underlying5 Try.underlying9 (Ho1.out.ext HBp.out); clear hB2))
      go_wp2_with (first
        | (go_at_call 37; refine (HRd.out _ _ _ (Ho1.out.rd.ext HBp.out) Ho1.out.capLe.1 Ho1.out.capLe.2).mono ?_; rintro e w3 ⟨a3, c3, rfl, h1, h2, hr3, hB3⟩; have HB3 := Lib.hid (HB2.out.trans (hB3.mono HB2.out.size)); have Hr3 := Lib.hid hr3; clear h1 h2 hr3 hB3)
        | (go_at_call 35; refine (HMay.out _ HB3.out).mono ?_; rintro e w4 ⟨rfl, m, rfl⟩)
        | (go_at_call 36; refine (HRc.out _ (HB3.out.trans ((ext_drewN _ _).mono HB3.out.size))).mono ?_; rintro e w4 ⟨a4, c4, rfl, h1, h2, hr4, hB4⟩; have HB4 := Lib.hid (ext_trans (ext_drewN w3 m) hB4); have Hr4 := Lib.hid hr4; clear h1 h2 hr4 hB4)
        | (go_at_call 28; refine (HPt.out _ _ _ (Hr4.out.mono (fun b _ h => h))).mono ?_; rintro e w5 ⟨a5, c5, rfl, h1, h2, hr5, hB5⟩; have HB5 := Lib.hid (HB4.out.trans (hB5.mono HB4.out.size)); have Hr5 := Lib.hid hr5; clear h1 h2 hr5 hB5)
        | (go_at_call 30; with_reducible (refine (same28_any l a3 ao c3 cap _ _ _ hlen Hrows.out (Hr3.out.ext HB5.out) (Hrd.out.ext (HB3.out.trans (HB5.out.mono HB3.out.size)))).mono ?_); rintro e w6 ⟨rfl, hB6⟩; have HB6 := Lib.hid hB6; clear hB6)
        | (go_at_call 30; with_reducible (refine (same28_any l a5 ao c5 cap _ _ _ hlen Hrows.out (Hr5.out.ext HB6.out) (Hrd.out.ext ((HB3.out.trans (HB5.out.mono HB3.out.size)).trans (HB6.out.mono (Nat.le_trans HB3.out.size HB5.out.size))))).mono ?_); rintro e w7 ⟨rfl, hB7⟩; have HB7 := Lib.hid hB7; clear hB7)
        | (go_at_call 27; refine (awake28_any _).mono ?_; rintro e w8 ⟨rfl, hB8⟩))
      go_ret
      exact ⟨rfl, ext_trans (ext_trans (ext_trans (ext_trans HB3.out HB5.out) HB6.out) HB7.out) hB8⟩
    · have hMay := fun (W : World) (hB : Below w.heap.size w W) => may_any l ao cap _ W hlen (hrd.ext hB)
      rw [mayB_no hm] at hMay
      have HMay := Lib.hid hMay
      rw [hr] at hRd
      have HRd := Lib.hid hRd
      have ht1 : decide ((1 : Int) ≤ (n : Int)) = true := decide_eq_true (by omega)
      have ht2 : decide ((n : Int) ≤ (l.length : Int)) = true := decide_eq_true (by omega)
      have ht3 : decide (n ≤ l.length) = true := decide_eq_true hn2
      have ht4 : decide (1 ≤ n) = true := decide_eq_true hn1
      have ht5 : n ≤ 9223372036854775807 := by omega
      clear hMay hRd hrd hm hr
      rcases he with rfl | rfl
      all_goals
        go_enter Try.func14, Try.ntmps14
        go_wp2_with (first
          | (go_at_call 34; refine HFew.out.mono ?_; rintro e w1 ⟨rfl, rfl⟩)
          | (go_at_call 39; refine (HP1.out _ (Below.refl _ _)).mono ?_; rintro e w1 ⟨a1, c1, g1, rfl, ho1, hg1, hB1⟩; have Ho1 := Lib.hid ho1; have HB1 := Lib.hid hB1; clear ho1 hg1 hB1))
        have ea := run_string_own (P := Try.prog) (src := 34) (dst := 9) (W := B) Try.underlying34 Try.underlying5 Try.underlying9 (Ho1.out.ext (ext_drew w1))
        go_region_held3 (fun w' => (convert 34 9 (.slice a1 B.length c1)).run Try.prog w' = .ok (.string (bs B)) w') (first | exact ea | exact eb)
          ((go_at_call 40; refine (HP2.out _ (HB1.out.trans ((ext_drew _).mono HB1.out.size))).mono ?_; rintro e w2 ⟨rfl, hB2⟩; have HBp := Lib.hid ((ext_drew w1).trans hB2); have HB2 := Lib.hid (HB1.out.trans (HBp.out.mono HB1.out.size)); have eb := run_string_own (P := Try.prog) (src := 34) (dst := 9) (W := B) Try.underlying34 Try.underlying5 Try.underlying9 (Ho1.out.ext HBp.out); clear hB2))
        go_wp2_with (first
          | (go_at_call 37; refine (HRd.out _ _ _ (Ho1.out.rd.ext HBp.out) Ho1.out.capLe.1 Ho1.out.capLe.2).mono ?_; rintro e w3 ⟨a3, c3, rfl, h1, h2, hr3, hB3⟩; have HB3 := Lib.hid (HB2.out.trans (hB3.mono HB2.out.size)); have Hr3 := Lib.hid hr3; clear h1 h2 hr3 hB3)
          | (go_at_call 35; refine (HMay.out _ HB3.out).mono ?_; rintro e w4 ⟨rfl, m, rfl⟩)
          | (go_at_call 27; refine (awake28_any _).mono ?_; rintro e w8 ⟨rfl, hB8⟩))
        go_ret
        exact ⟨rfl, ext_trans (ext_trans HB3.out (ext_drewN _ _)) hB8⟩
  · have hFew : Calls Try.prog 34 #[.slice ao l.length cap] w fun e w' => e = .returned (.bool false) ∧ w = w' := by rw [← fewB_no hf]; exact few_any l ao cap _ w hrd
    have HFew := Lib.hid hFew
    clear hFew hf hrd
    go_enter Try.func14, Try.ntmps14
    go_wp2_with (first
      | (go_at_call 34; refine HFew.out.mono ?_; rintro e w1 ⟨rfl, rfl⟩)
      | (go_at_call 27; refine (awake28_any _).mono ?_; rintro e w4 ⟨rfl, hB4⟩))
    go_ret
    exact ⟨rfl, hB4⟩
end Go.Proofs.Ytbleacpdobjdaaa
