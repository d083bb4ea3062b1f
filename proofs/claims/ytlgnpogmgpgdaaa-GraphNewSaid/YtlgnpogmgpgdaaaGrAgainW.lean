/- GraphAgain: the walk. -/
import Derived.Test.YtlgnpogmgpgdaaaGrOfW
import Derived.Test.YtlgnpogmgpgdaaaGraphNew
namespace Go.Proofs.Ytlgnpogmgpgdaaa
set_option linter.unusedSimpArgs false
set_option linter.unusedVariables false
set_option maxRecDepth 100000
open Go.RowKit

theorem newR_ok {R : List RowD} (h : okG R) : newR R = (R, 0) := by unfold newR; rw [if_pos (newM15_okG h)]
/-- a graph whose blocks lie below a bound -/
def GIn (w : World) (p : Option Nat) (R : List RowD) : Prop := ∃ B, B ≤ w.heap.size ∧ GraphIs w (fun b => b < B) p R
theorem GIn.mk {w : World} {fp : Nat → Prop} {p : Option Nat} {R : List RowD} (h : GraphIs w fp p R) : GIn w p R := ⟨w.heap.size, Nat.le_refl _, h.mono (fun b _ hl => hl)⟩
theorem GIn.ext {w w' : World} {p : Option Nat} {R : List RowD} (h : GIn w p R) (hB : Below w.heap.size w w') : GIn w' p R := by
  obtain ⟨B, h1, h2⟩ := h
  exact ⟨B, Nat.le_trans h1 hB.size, h2.ext hB⟩
theorem lrows_in {p : Option Nat} {R : List RowD} (hF : FitG R) {w : World} (h : GIn w p R) : Calls Try.prog 26 #[gV p] w (RowsOwn R w) := by
  obtain ⟨B, h1, h2⟩ := h
  exact lrows_any p R _ w hF.len hF.rows h2 (fun k hk => Nat.lt_of_lt_of_le hk h1)
theorem gedges_in {p : Option Nat} {R : List RowD} (hF : FitG R) {w : World} (h : GIn w p R) : Calls Try.prog 33 #[gV p] w (EdgesOwn (edgesM R) w) := by
  obtain ⟨B, h1, h2⟩ := h
  exact gedges_any p R _ w hF.len hF.each (by have := hF.edges; omega) h2 (fun k hk => Nat.lt_of_lt_of_le hk h1)
set_option maxRecDepth 100000 in
set_option maxHeartbeats 3200000 in
theorem gragain_walk (l : List EdgeD) (ao : Option Addr) (ca : Nat) (fp : Nat → Prop) (w : World) (hrd : RdS edgeRep fp w ao l) :
    Calls Try.prog 10 #[.slice ao l.length ca] w (RetB (.bool true) w) := by
  have HA := Lib.hid awake15_any
  by_cases h1 : 100 < l.length
  · have d1 : decide (100 < l.length) = true := decide_eq_true h1
    have d1' : decide ((100 : Int) < (l.length : Int)) = true := decide_eq_true (by omega)
    clear hrd h1
    go_enter Try.func10, Try.ntmps10
    go_wp2_with (go_at_call 23; (with_reducible refine (HA.out _).mono ?_); rintro e w1 ⟨rfl, hx⟩; have B1 := Lib.hid hx; clear hx)
    go_ret
    exact ⟨rfl, B1.out⟩
  have d1 : decide (100 < l.length) = false := decide_eq_false h1
  have d1' : decide ((100 : Int) < (l.length : Int)) = false := decide_eq_false (by omega)
  have hok := edges_okE hrd
  have HO := Lib.hid (gof_any l ao ca fp w (by omega) hok hrd)
  have HF := Lib.hid (fun (R : List RowD) (h : ofM l = (R, 0)) => ofM_fit hok (by omega) h)
  clear hrd hok
  obtain ⟨r, hr⟩ : ∃ r, ofM l = r := ⟨_, rfl⟩
  rw [hr] at HO HF
  obtain ⟨R, er⟩ := r
  clear hr
  by_cases he : er = 0
  · subst he
    have hF := HF.out R rfl
    clear HF h1
    have HEd := Lib.hid (fun p W (h : GIn W p R) => gedges_in hF h)
    have HRw := Lib.hid (fun p W (h : GIn W p R) => lrows_in hF h)
    have HO2 := Lib.hid (fun a c f W (h : RdS edgeRep f W a (edgesM R)) => (show Calls Try.prog 24 #[.slice a (edgesM R).length c] W (GraphRet (R, 0) W) from by
      have h9 := gof_any (edgesM R) a c f W (by have := hF.edges; omega) hF.ok.edges h
      rwa [ofM_edges hF.ok] at h9))
    have HNw := Lib.hid (fun a c f W (h : RdS rowRep f W a R) => (show Calls Try.prog 38 #[.slice a R.length c] W (GraphRet (R, 0) W) from by
      have h9 := gnew_any R a c f W hF.len hF.arcs h
      rwa [newR_ok hF.ok] at h9))
    have HS14 := Lib.hid (fun a b ca cb fa fb W ha hb => same14_any R a b ca cb fa fb W (by have := hF.len; omega) (fun r hr => by have := hF.arcs r hr; omega) ha hb)
    generalize edgesM R = EV at *
    clear hF
    go_enter Try.func10, Try.ntmps10
    go_wp2_with (first
      | (go_at_call 24; (with_reducible refine HO.out.mono ?_); rintro e w3 ⟨p3, rfl, _, _, h3, hx⟩; have P3 := Lib.hid (GIn.mk h3); have B3 := Lib.hid hx; clear h3 hx)
      | (go_at_call 33; (with_reducible refine (HEd.out _ _ P3.out).mono ?_); rintro e w4 ⟨a4, c4, g4, rfl, h4, _, hx⟩; have S4 := Lib.hid h4.rd; have P4 := Lib.hid (P3.out.ext hx); have B4 := Lib.hid (B3.out.trans (hx.mono B3.out.size)); clear hx; clear h4)
      | (go_at_call 24; (with_reducible refine (HO2.out _ _ _ _ S4.out).mono ?_); rintro e w5 ⟨p5, rfl, _, _, h5, hx⟩; have Q5 := Lib.hid (GIn.mk h5); have P5 := Lib.hid (P4.out.ext hx); have B5 := Lib.hid (B4.out.trans (hx.mono B4.out.size)); clear hx; clear h5)
      | (go_at_call 26; (with_reducible refine (HRw.out _ _ P5.out).mono ?_); rintro e w6 ⟨a6, c6, g6, f6, rfl, h6, _, _, hx⟩; have S6 := Lib.hid h6.rd; have P6 := Lib.hid (P5.out.ext hx); have Q6 := Lib.hid (Q5.out.ext hx); have B6 := Lib.hid (B5.out.trans (hx.mono B5.out.size)); clear hx; clear h6)
      | (go_at_call 38; (with_reducible refine (HNw.out _ _ _ _ S6.out).mono ?_); rintro e w7 ⟨p7, rfl, _, _, h7, hx⟩; have T7 := Lib.hid (GIn.mk h7); have P7 := Lib.hid (P6.out.ext hx); have Q7 := Lib.hid (Q6.out.ext hx); have B7 := Lib.hid (B6.out.trans (hx.mono B6.out.size)); clear hx; clear h7)
      | (go_at_call 26; (with_reducible refine (HRw.out _ _ Q7.out).mono ?_); rintro e w8 ⟨a8, c8, g8, f8, rfl, h8, _, _, hx⟩; have S8 := Lib.hid h8.rd; have P8 := Lib.hid (P7.out.ext hx); have T8 := Lib.hid (T7.out.ext hx); have B8 := Lib.hid (B7.out.trans (hx.mono B7.out.size)); clear hx; clear h8)
      | (go_at_call 26; (with_reducible refine (HRw.out _ _ P8.out).mono ?_); rintro e w9 ⟨a9, c9, g9, f9, rfl, h9, _, _, hx⟩; have S9 := Lib.hid h9.rd; have U9 := Lib.hid (S8.out.ext hx); have P9 := Lib.hid (P8.out.ext hx); have T9 := Lib.hid (T8.out.ext hx); have B9 := Lib.hid (B8.out.trans (hx.mono B8.out.size)); clear hx; clear h9)
      | (go_at_call 25; (with_reducible refine (HS14.out _ _ _ _ _ _ _ U9.out S9.out).mono ?_); rintro e w10 ⟨rfl, hx⟩; have P10 := Lib.hid (P9.out.ext hx); have T10 := Lib.hid (T9.out.ext hx); have B10 := Lib.hid (B9.out.trans (hx.mono B9.out.size)); clear hx)
      | (go_at_call 26; (with_reducible refine (HRw.out _ _ T10.out).mono ?_); rintro e w11 ⟨a11, c11, g11, f11, rfl, h11, _, _, hx⟩; have S11 := Lib.hid h11.rd; have P11 := Lib.hid (P10.out.ext hx); have B11 := Lib.hid (B10.out.trans (hx.mono B10.out.size)); clear hx; clear h11)
      | (go_at_call 26; (with_reducible refine (HRw.out _ _ P11.out).mono ?_); rintro e w12 ⟨a12, c12, g12, f12, rfl, h12, _, _, hx⟩; have S12 := Lib.hid h12.rd; have U12 := Lib.hid (S11.out.ext hx); have B12 := Lib.hid (B11.out.trans (hx.mono B11.out.size)); clear hx; clear h12)
      | (go_at_call 25; (with_reducible refine (HS14.out _ _ _ _ _ _ _ U12.out S12.out).mono ?_); rintro e w13 ⟨rfl, hx⟩; have B13 := Lib.hid (B12.out.trans (hx.mono B12.out.size)); clear hx)
      | (go_at_call 23; (with_reducible refine (HA.out _).mono ?_); rintro e w14 ⟨rfl, hx⟩; have B14 := Lib.hid (B13.out.trans (hx.mono B13.out.size)); clear hx))
    go_ret
    exact ⟨rfl, B14.out⟩
  · have e1 : ((er : Int) != 0) = true := bne_iff_ne.2 (by omega)
    have e1' : (er != 0) = true := bne_iff_ne.2 he
    clear HF h1
    go_enter Try.func10, Try.ntmps10
    go_wp2_with (first
      | (go_at_call 24; (with_reducible refine HO.out.mono ?_); rintro e w3 ⟨p, rfl, h3, _, _, hx⟩; obtain rfl : p = none := h3 he; rw [show gV none = .pointer none from rfl]; have B3 := Lib.hid hx; clear h3 hx)
      | (go_at_call 23; (with_reducible refine (HA.out _).mono ?_); rintro e w5 ⟨rfl, hx⟩; have B5 := Lib.hid (B3.out.trans (hx.mono B3.out.size)); clear hx))
    go_ret
    exact ⟨rfl, B5.out⟩
end Go.Proofs.Ytlgnpogmgpgdaaa
