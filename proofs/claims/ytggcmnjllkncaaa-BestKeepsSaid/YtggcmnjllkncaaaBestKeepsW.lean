/- BestKeeps' walk. -/
import Derived.Test.YtggcmnjllkncaaaBestLaw
namespace Go.Proofs.Ytggcmnjllkncaaa
set_option linter.unusedSimpArgs false
set_option linter.unusedVariables false
set_option maxRecDepth 100000
open Go.RowKit

def keepI (M : List VisD) (a : Option Addr) (gown : Option Nat) (t m : Nat) (w : World) (v9 : Value) (wr : World) : Prop :=
  ∃ (k : Nat) (g : Option Nat), k ≤ M.length ∧ v9 = .int .i64 (k : Nat) ∧ TopS wr t m g (M.take k) ∧ RdS visRep (fun q => gown = some q) wr a M ∧ (∀ q, gown = some q → q < wr.heap.size ∧ q ≠ t ∧ g ≠ some q) ∧ (∀ q, g = some q → w.heap.size ≤ q) ∧ w.heap.size ≤ t ∧ Below w.heap.size w wr
set_option maxRecDepth 100000 in
set_option maxHeartbeats 6400000 in
theorem bkeeps_walk (L : List VisD) (ao : Option Addr) (cap : Nat) (s : Nat) (most : Int) (fp : Nat → Prop) (w : World) (hs : s < 4294967296) (h0 : -9223372036854775808 ≤ most) (h1 : most ≤ 9223372036854775807) (hrd : RdS visRep fp w ao L) :
    Calls Try.prog 3 #[.slice ao L.length cap, .int .u32 (s : Nat), .int .i64 most] w (RetB (.bool true) w) := by
  have HA := Lib.hid awake29_any
  by_cases hl : L.length ≤ 60
  · have g1 : decide (60 < (L.length : Int)) = false := decide_eq_false (by omega)
    have g1' : decide (60 < L.length) = false := decide_eq_false (by omega)
    have HOf := Lib.hid (of_any L s ao cap fp w (by omega) hs hrd)
    have HMl := Lib.hid (show (ofL L s).length ≤ 60 by simp [ofL]; exact hl)
    have HMs := Lib.hid (show ∀ x ∈ ofL L s, x.1 = s from fun x hx => by obtain ⟨y, _, rfl⟩ := List.mem_map.1 hx; rfl)
    have HNew := Lib.hid (fun W => tnew_any most W h0 h1)
    have H01 := Lib.hid (And.intro h0 h1)
    have hm := le_two63 h1
    obtain ⟨m, hme⟩ : ∃ m, most.toNat = m := ⟨_, rfl⟩
    rw [hme] at HNew hm
    have HM := Lib.hid hm
    have HMe := Lib.hid hme
    generalize ofL L s = M at *
    clear hl hrd h0 h1 hm hme
    go_enter Try.func3, Try.ntmps3
    go_wp2_with (first
      | (go_at_call 8; refine HOf.out.mono ?_; rintro e w2 ⟨a, c, gown, rfl, hO, hG, hB2⟩; have HO := Lib.hid hO; have HG := Lib.hid hG; have HB2 := Lib.hid hB2; clear hO hG hB2)
      | (go_at_call 9; refine (HNew.out w2).mono ?_; rintro e w3 ⟨rfl, hT, hB3⟩; have HT := Lib.hid hT; have HB3 := Lib.hid hB3; clear hT hB3))
    have HLt := Lib.hid HO.out.lt
    have HCl := Lib.hid HO.out.capLe
    go_loopw [9, 10] (fun v9 _ wr => keepI M a gown w2.heap.size m w v9 wr) (fun v9 _ _ => M.length - (intOf v9).toNat)
    case atStart => exact ⟨0, none, Nat.zero_le _, rfl, HT.out, ((HO.out.ext HB3.out).rd.mono (fun q h _ => h.resolve_left id)), (fun q h => ⟨by have := HLt.out q h; have := HB3.out.size; omega, by have := HLt.out q h; omega, by simp⟩), (fun q h => by cases h), HB2.out.size, HB2.out.trans (HB3.out.mono HB2.out.size)⟩
    case round =>
      obtain ⟨k, g, hk, rfl, hT, hrd, hgo, hgn, htn, hB⟩ := hrel
      rename World => wo
      have HTo := Lib.hid hT
      have HRo := Lib.hid hrd
      have HGo := Lib.hid hgo
      have HGn := Lib.hid hgn
      have HBo := Lib.hid hB
      have hzB := hB.size
      obtain ⟨tt, htt⟩ : ∃ tt, w2.heap.size = tt := ⟨_, rfl⟩
      rw [htt] at htn HTo HGo ⊢
      have HTt := Lib.hid htt
      clear hT hrd hgo hgn hB htt
      by_cases hlt : k < M.length
      · obtain ⟨b, off, rfl, hgb, hbl, x0, x1, x2, hx⟩ := HRo.out.vis k hlt
        have hxs : vat M k = M[k] := vat_get hlt
        have HTk := Lib.hid (show M.take (k + 1) = M.take k ++ [vat M k] by rw [take_snoc hlt, hxs])
        have hTl : (M.take (k + 1)).length = k + 1 := by rw [List.length_take]; omega
        have hcap := HCl.out
        have hpu := tput_any (M.take k) (vat M k) tt m g wo (by rw [List.length_take]; have := HMl.out; omega) HM.out hx HTo.out
        rw [← HTk.out] at hpu
        clear hxs hx
        generalize vat M k = X at *
        obtain ⟨X0, X1, X2⟩ := X
        simp only [visCs] at hpu
        simp only at x0 x1 x2
        have hir : (k : Int) < (M.length : Int) := by omega
        have hkb : k ≤ 60 := by have := HMl.out; omega
        have htk := fun W => takeV_run (some ⟨b, off, none⟩) M.length c (k + 1) (by omega) W
        rw [show ((k + 1 : Nat) : Int) = (k : Int) + 1 by omega] at htk
        have HBe := Lib.hid (show ∀ W, RdS visRep (fun q => gown = some q) W (some ⟨b, off, none⟩) M → Calls Try.prog 11 #[.slice (some ⟨b, off, none⟩) (k + 1) c, .int .i64 most] W (RowsVis (bestL (M.take (k + 1)) m) W) from fun W h => by
          have := rbest_any (M.take (k + 1)) s most (some ⟨b, off, none⟩) c _ W (fun x hx => HMs.out x (List.mem_of_mem_take hx)) (by omega) (by omega) hcap.2 H01.out.1 H01.out.2 (h.take _)
          rwa [hTl, HMe.out] at this)
        have HTl := Lib.hid (show (M.take (k + 1)).length ≤ 61 by omega)
        have HBl := Lib.hid (show (bestL (M.take (k + 1)) m).length ≤ 61 by rw [bestL_len]; have := HTl.out; omega)
        clear hTl hcap
        obtain ⟨MK, hMK⟩ : ∃ MK, M.take (k + 1) = MK := ⟨_, rfl⟩
        rw [hMK] at hpu HBe HTl HBl
        have HMK := Lib.hid hMK
        clear hMK
        go_wp2_with (first
          | (go_at_call 10; refine hpu.mono ?_; rintro e w4 ⟨rfl, g', hT4, hg4, hon4⟩; clear hpu; have HT4 := Lib.hid hT4; have Hg4 := Lib.hid hg4; have Hon4 := Lib.hid hon4; have HR4 := Lib.hid (HRo.out.only hon4 (fun q hq _ e => by rcases e with e | e; exact (HGo.out q hq).2.1 e; exact (HGo.out q hq).2.2 e)); clear hT4 hg4 hon4)
          | (go_at_call 11; refine (HBe.out _ HR4.out).mono ?_; rintro e w5 ⟨a5, c5, rfl, h51, h52, hrd5, hB5⟩; have HR5 := Lib.hid hrd5; have HB5 := Lib.hid hB5; have HT5 := Lib.hid (HT4.out.ext hB5); have HLe := Lib.hid (tlen_any MK tt m g' w5 HT5.out); clear hrd5 hB5 h51 h52)
          | (go_at_call 12; refine HLe.out.mono ?_; rintro e w6 ⟨rfl, hw6⟩; have hw6 := hw6.symm; subst hw6; have HRw := Lib.hid (trows_any MK tt m g' w5 (by have := HTl.out; omega) HT5.out))
          | (go_at_call 14; refine HRw.out.mono ?_; rintro e w7 ⟨a7, c7, rfl, h71, h72, hrd7, hB7⟩; have HSa := Lib.hid (vsame27_any _ a7 a5 c7 c5 _ _ w7 (by have := HBl.out; omega) hrd7 (HR5.out.ext hB7)); have HB7 := Lib.hid hB7; clear hrd7 hB7 h71 h72)
          | (go_at_call 13; refine HSa.out.mono ?_; rintro e w8 ⟨rfl, q, rfl⟩))
        go_roundw
        case rel =>
          have hz4 := Hon4.out.size
          have h58 : Below w4.heap.size w4 (w7.drewN q) := HB5.out.trans ((HB7.out.trans ((ext_drewN w7 q).mono HB7.out.size)).mono HB5.out.size)
          refine ⟨k + 1, g', by omega, by go_num, by rw [HMK.out]; exact HT4.out.ext h58, HR4.out.ext h58, fun q hq => ?_, fun q hq => ?_, htn, HBo.out.trans ((Hon4.out.below hzB (fun q hq e => ?_)).trans (h58.mono (by omega)))⟩
          · obtain ⟨h1, h2, h3⟩ := HGo.out q hq
            refine ⟨by have := h58.size; omega, h2, fun e => ?_⟩
            rcases Hg4.out with e1 | ⟨q', e1, hl⟩
            · exact h3 (by rw [← e1]; exact e)
            · rw [e1] at e; cases e; omega
          · rcases Hg4.out with e1 | ⟨q', e1, hl⟩
            · exact HGn.out q (by rw [← e1]; exact hq)
            · rw [e1] at hq; cases hq; omega
          · rcases e with e | e
            · omega
            · have := HGn.out q e; omega
        case measure => simp [intOf]; omega
      · obtain rfl : k = M.length := by omega
        go_wp2_with (go_at_call 7; refine (HA.out _).mono ?_; rintro e w9 ⟨rfl, hB9⟩; have HB9 := Lib.hid hB9; clear hB9)
        go_ret
        exact ⟨rfl, HBo.out.trans (HB9.out.mono hzB)⟩
  · have g1 : decide (60 < (L.length : Int)) = true := decide_eq_true (by omega)
    have g1' : decide (60 < L.length) = true := decide_eq_true (by omega)
    clear hrd
    go_enter Try.func3, Try.ntmps3
    go_wp2_with (go_at_call 7; refine (HA.out _).mono ?_; rintro e w5 ⟨rfl, hB5⟩; have HB5 := Lib.hid hB5; clear hB5)
    go_ret
    exact ⟨rfl, HB5.out⟩
end Go.Proofs.Ytggcmnjllkncaaa
