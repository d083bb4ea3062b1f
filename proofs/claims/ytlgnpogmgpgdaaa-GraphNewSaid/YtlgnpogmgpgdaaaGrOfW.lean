/- GraphOf: the walk. -/
import Derived.Test.YtlgnpogmgpgdaaaBdGrR
namespace Go.Proofs.Ytlgnpogmgpgdaaa
set_option linter.unusedSimpArgs false
set_option linter.unusedVariables false
set_option maxRecDepth 100000
open Go.RowKit

theorem edges_okE {fp : Nat → Prop} {w : World} {ao : Option Addr} {l : List EdgeD} (h : RdS edgeRep fp w ao l) : ∀ x ∈ l, okE x := fun x hx => by
  obtain ⟨k, hk, rfl⟩ := List.mem_iff_getElem.1 hx
  obtain ⟨_, _, _, _, _, _, _, h1⟩ := h.edgeM k hk
  exact h1
theorem ofM_fit {l : List EdgeD} (hok : ∀ x ∈ l, okE x) (hl : l.length ≤ 100) {R : List RowD} (h : ofM l = (R, 0)) : FitG R := by
  have h1 := ofM_len l
  rw [h] at h1
  simp only at h1
  exact FitG.of (ofM_okG hok h) (by have := h1.2; omega) (fun r hr => Nat.le_trans (h1.1 r hr) hl)
set_option maxRecDepth 100000 in
set_option maxHeartbeats 3200000 in
theorem grof_walk (l : List EdgeD) (ao : Option Addr) (ca : Nat) (v tv : Nat) (fp : Nat → Prop) (w : World) (hrd : RdS edgeRep fp w ao l) :
    Calls Try.prog 8 #[.slice ao l.length ca, .int .u32 (v : Nat), .int .u32 (tv : Nat)] w (RetB (.bool true) w) := by
  have HA := Lib.hid awake15_any
  by_cases h1 : 100 < l.length
  · have d1 : decide (100 < l.length) = true := decide_eq_true h1
    have d1' : decide ((100 : Int) < (l.length : Int)) = true := decide_eq_true (by omega)
    clear hrd h1
    go_enter Try.func8, Try.ntmps8
    go_wp2_with (go_at_call 23; (with_reducible refine (HA.out _).mono ?_); rintro e w1 ⟨rfl, hx⟩; have B1 := Lib.hid hx; clear hx)
    go_ret
    exact ⟨rfl, B1.out⟩
  have d1 : decide (100 < l.length) = false := decide_eq_false h1
  have d1' : decide ((100 : Int) < (l.length : Int)) = false := decide_eq_false (by omega)
  have hok := edges_okE hrd
  have HO := Lib.hid (gof_any l ao ca fp w (by omega) hok hrd)
  have HP := Lib.hid (fun W (h : Below w.heap.size w W) => rof15_any l ao ca fp W (by omega) (hrd.ext h))
  have HF := Lib.hid (fun (R : List RowD) (h : ofM l = (R, 0)) => ofM_fit hok (by omega) h)
  clear hrd hok
  obtain ⟨r, hr⟩ : ∃ r, ofM l = r := ⟨_, rfl⟩
  rw [hr] at HO HP HF
  obtain ⟨R, er⟩ := r
  clear hr
  by_cases he : er = 0
  · subst he
    have hF := HF.out R rfl
    clear HF h1
    go_enter Try.func8, Try.ntmps8
    go_upto_region 5 with (first
      | (go_at_call 24; (with_reducible refine HO.out.mono ?_); rintro e w3 ⟨p, rfl, _, _, h3, hx⟩; have G3 := Lib.hid (h3.mono (fun b _ hl => hl)); have B3 := Lib.hid hx; clear h3 hx)
      | (go_at_call 19; (with_reducible refine (HP.out _ B3.out).mono ?_); rintro e w4 ⟨ra, rc, rfl, _, _, h3, hx⟩; have R4 := Lib.hid h3; have G4 := Lib.hid (G3.out.ext hx); have B4 := Lib.hid (B3.out.trans (hx.mono B3.out.size)); have HZ := Lib.hid hx.size; clear h3 hx))
    have HL := Lib.hid (fun W h => glen_any p R (fun b => b < w3.heap.size) W h)
    have HRw := Lib.hid (fun W h hs => lrows_any p R (fun b => b < w3.heap.size) W hF.len hF.rows h hs)
    have HAr := Lib.hid (fun W h => garcs_any p R v (fun b => b < w3.heap.size) W hF.len hF.arcs hF.pair h)
    have HNr := Lib.hid (fun W h => gnear_any p R v tv (fun b => b < w3.heap.size) W hF.len hF.near hF.pair h)
    have HEd := Lib.hid (fun W h hs => gedges_any p R (fun b => b < w3.heap.size) W hF.len hF.each (by have := hF.edges; omega) h hs)
    have HVe := Lib.hid (fun W h hs => gverts_any p R (fun b => b < w3.heap.size) W hF.len hF.vert hF.raw h hs)
    have HrA := Lib.hid (fun W h => arcs15_any R v ra rc (fun b => w3.heap.size ≤ b) W (by have := hF.len; omega) h)
    have HrN := Lib.hid (fun W h => rnear15_any R v tv ra rc (fun b => w3.heap.size ≤ b) W hF.len hF.arcs h)
    have HrE := Lib.hid (fun W h => redges15_any R ra rc (fun b => w3.heap.size ≤ b) W hF.len (by have := hF.edges; omega) h)
    have HrV := Lib.hid (fun W h => rverts15_any R ra rc (fun b => w3.heap.size ≤ b) W hF.len hF.edges h)
    have HS14 := Lib.hid (fun a b ca cb fa fb W ha hb => same14_any R a b ca cb fa fb W (by have := hF.len; omega) (fun r hr => by have := hF.arcs r hr; omega) ha hb)
    have hal : (arcs15M R v).length ≤ 100000 := by
      rcases arcs15_mem (R := R) (v := v) with h | ⟨r, hr, _, h⟩
      · rw [h]; simp
      · rw [h]; exact hF.arcs r hr
    have HS04 := Lib.hid (fun a b ca cb fa fb W ha hb => same04_any (arcs15M R v) a b ca cb fa fb W (by omega) ha hb)
    have HS12 := Lib.hid (fun a b ca cb fa fb W ha hb => gsame12_any (edgesM R) a b ca cb fa fb W (by have := hF.edges; omega) ha hb)
    have hvl : (vertM R).length ≤ 100000 := by
      have h9 := fold_len (edgesM R) []
      have := hF.edges
      simp only [List.length_nil] at h9
      unfold vertM
      omega
    have HS15 := Lib.hid (fun a b ca cb W ha hb => vsame15_any (vertM R) a b ca cb W (by omega) ha hb)
    have hRl : (R.length : Int) = (R.length : Int) := rfl
    clear hal hvl hF
    generalize arcs15M R v = AV at *
    generalize edgesM R = EV at *
    generalize vertM R = VV at *
    generalize near15M R v tv = nv at *
    generalize gV p = pv at *
    go_wp2_with (first
      | (go_at_call 27; (with_reducible refine (HL.out _ G4.out).mono ?_); rintro e w5 ⟨rfl, hw5⟩; obtain rfl : w4 = w5 := hw5.symm; clear hw5)
      | (go_at_call 26; (with_reducible refine (HRw.out _ G4.out (fun b hb => Nat.lt_of_lt_of_le hb HZ.out)).mono ?_); rintro e w6 ⟨a6, c6, g6, f6, rfl, h6, _, _, hx⟩; have S6 := Lib.hid h6.rd; have Z6 := Lib.hid (Nat.le_trans HZ.out hx.size); have G6 := Lib.hid (G4.out.ext hx); have R6 := Lib.hid (R4.out.ext hx); have B6 := Lib.hid (B4.out.trans (hx.mono B4.out.size)); clear hx)
      | (go_at_call 25; (with_reducible refine (HS14.out _ _ _ _ _ _ _ S6.out R6.out).mono ?_); rintro e w7 ⟨rfl, hx⟩; have Z7 := Lib.hid (Nat.le_trans Z6.out hx.size); have G7 := Lib.hid (G6.out.ext hx); have R7 := Lib.hid (R6.out.ext hx); have B7 := Lib.hid (B6.out.trans (hx.mono B6.out.size)); clear hx)
      | (go_at_call 29; (with_reducible refine (HAr.out _ G7.out).mono ?_); rintro e w8 ⟨a8, c8, g8, rfl, h8, _, hx⟩; have S8 := Lib.hid h8.rd; have Z8 := Lib.hid (Nat.le_trans Z7.out hx.size); have G8 := Lib.hid (G7.out.ext hx); have R8 := Lib.hid (R7.out.ext hx); have B8 := Lib.hid (B7.out.trans (hx.mono B7.out.size)); clear hx)
      | (go_at_call 21; (with_reducible refine (HrA.out _ R8.out).mono ?_); rintro e w9 ⟨a9, c9, rfl, _, _, h9, hx⟩; have S9 := Lib.hid h9; have T9 := Lib.hid (S8.out.ext hx); have Z9 := Lib.hid (Nat.le_trans Z8.out hx.size); have G9 := Lib.hid (G8.out.ext hx); have R9 := Lib.hid (R8.out.ext hx); have B9 := Lib.hid (B8.out.trans (hx.mono B8.out.size)); clear hx)
      | (go_at_call 28; (with_reducible refine (HS04.out _ _ _ _ _ _ _ T9.out S9.out).mono ?_); rintro e w10 ⟨rfl, m, hw⟩; have hx : Below w9.heap.size w9 w10 := (by rw [hw]; exact ext_drewN _ _); clear hw; have Z10 := Lib.hid (Nat.le_trans Z9.out hx.size); have G10 := Lib.hid (G9.out.ext hx); have R10 := Lib.hid (R9.out.ext hx); have B10 := Lib.hid (B9.out.trans (hx.mono B9.out.size)); clear hx)
      | (go_at_call 30; (with_reducible refine (HNr.out _ G10.out).mono ?_); rintro e w11 ⟨rfl, hx⟩; have Z11 := Lib.hid (Nat.le_trans Z10.out hx.size); have G11 := Lib.hid (G10.out.ext hx); have R11 := Lib.hid (R10.out.ext hx); have B11 := Lib.hid (B10.out.trans (hx.mono B10.out.size)); clear hx)
      | (go_at_call 31; (with_reducible refine (HrN.out _ R11.out).mono ?_); rintro e w12 ⟨rfl, hx⟩; have Z12 := Lib.hid (Nat.le_trans Z11.out hx.size); have G12 := Lib.hid (G11.out.ext hx); have R12 := Lib.hid (R11.out.ext hx); have B12 := Lib.hid (B11.out.trans (hx.mono B11.out.size)); clear hx)
      | (go_at_call 33; (with_reducible refine (HEd.out _ G12.out (fun b hb => Nat.lt_of_lt_of_le hb Z12.out)).mono ?_); rintro e w13 ⟨a13, c13, g13, rfl, h13, _, hx⟩; have S13 := Lib.hid h13.rd; have Z13 := Lib.hid (Nat.le_trans Z12.out hx.size); have G13 := Lib.hid (G12.out.ext hx); have R13 := Lib.hid (R12.out.ext hx); have B13 := Lib.hid (B12.out.trans (hx.mono B12.out.size)); clear hx)
      | (go_at_call 34; (with_reducible refine (HrE.out _ R13.out).mono ?_); rintro e w14 ⟨a14, c14, g14, rfl, h14, _, hx⟩; have S14 := Lib.hid h14.rd; have T14 := Lib.hid (S13.out.ext hx); have Z14 := Lib.hid (Nat.le_trans Z13.out hx.size); have G14 := Lib.hid (G13.out.ext hx); have R14 := Lib.hid (R13.out.ext hx); have B14 := Lib.hid (B13.out.trans (hx.mono B13.out.size)); clear hx)
      | (go_at_call 32; (with_reducible refine (HS12.out _ _ _ _ _ _ _ T14.out S14.out).mono ?_); rintro e w15 ⟨rfl, m, hw⟩; have hx : Below w14.heap.size w14 w15 := (by rw [hw]; exact ext_drewN _ _); clear hw; have Z15 := Lib.hid (Nat.le_trans Z14.out hx.size); have G15 := Lib.hid (G14.out.ext hx); have R15 := Lib.hid (R14.out.ext hx); have B15 := Lib.hid (B14.out.trans (hx.mono B14.out.size)); clear hx)
      | (go_at_call 36; (with_reducible refine (HVe.out _ G15.out (fun b hb => Nat.lt_of_lt_of_le hb Z15.out)).mono ?_); rintro e w16 ⟨a16, c16, rfl, h16, hx⟩; have S16 := Lib.hid h16; have Z16 := Lib.hid (Nat.le_trans Z15.out hx.size); have G16 := Lib.hid (G15.out.ext hx); have R16 := Lib.hid (R15.out.ext hx); have B16 := Lib.hid (B15.out.trans (hx.mono B15.out.size)); clear hx)
      | (go_at_call 37; (with_reducible refine (HrV.out _ R16.out).mono ?_); rintro e w17 ⟨a17, c17, rfl, h17, hx⟩; have S17 := Lib.hid h17; have T17 := Lib.hid (S16.out.ext hx); have Z17 := Lib.hid (Nat.le_trans Z16.out hx.size); have G17 := Lib.hid (G16.out.ext hx); have R17 := Lib.hid (R16.out.ext hx); have B17 := Lib.hid (B16.out.trans (hx.mono B16.out.size)); clear hx)
      | (go_at_call 35; (with_reducible refine (HS15.out _ _ _ _ _ T17.out S17.out).mono ?_); rintro e w18 ⟨rfl, m, hw⟩; have hx : Below w17.heap.size w17 w18 := (by rw [hw]; exact ext_drewN _ _); clear hw; have G18 := Lib.hid (G17.out.ext hx); have R18 := Lib.hid (R17.out.ext hx); have B18 := Lib.hid (B17.out.trans (hx.mono B17.out.size)); clear hx)
      | (go_at_call 23; (with_reducible refine (HA.out _).mono ?_); rintro e w19 ⟨rfl, hx⟩; have G19 := Lib.hid (G18.out.ext hx); have R19 := Lib.hid (R18.out.ext hx); have B19 := Lib.hid (B18.out.trans (hx.mono B18.out.size)); clear hx))
    go_ret
    exact ⟨rfl, B19.out⟩
  · have e1 : ((er : Int) != 0) = true := bne_iff_ne.2 (by omega)
    have e1' : (er != 0) = true := bne_iff_ne.2 he
    have e2 : ((er : Int) == (er : Int)) = true := beq_self_eq_true _
    have e2' : (er == er) = true := beq_self_eq_true _
    clear HF h1
    go_enter Try.func8, Try.ntmps8
    go_wp2_with (first
      | (go_at_call 24; (with_reducible refine HO.out.mono ?_); rintro e w3 ⟨p, rfl, h3, _, _, hx⟩; obtain rfl : p = none := h3 he; rw [show gV none = .pointer none from rfl]; have B3 := Lib.hid hx; clear h3 hx)
      | (go_at_call 19; (with_reducible refine (HP.out _ B3.out).mono ?_); rintro e w4 ⟨ra, rc, rfl, _, _, _, hx⟩; have B4 := Lib.hid (B3.out.trans (hx.mono B3.out.size)); clear hx)
      | (go_at_call 23; (with_reducible refine (HA.out _).mono ?_); rintro e w5 ⟨rfl, hx⟩; have B5 := Lib.hid (B4.out.trans (hx.mono B4.out.size)); clear hx))
    go_ret
    exact ⟨rfl, B5.out⟩
end Go.Proofs.Ytlgnpogmgpgdaaa
