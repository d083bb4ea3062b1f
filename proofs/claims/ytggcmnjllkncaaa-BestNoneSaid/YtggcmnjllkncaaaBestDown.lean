/- heap.down at *kept. -/
import Derived.Handy
import Derived.Test.YtggcmnjllkncaaaBestUp
namespace Go.Proofs.Ytggcmnjllkncaaa
set_option linter.unusedSimpArgs false
set_option linter.unusedVariables false
set_option maxRecDepth 100000
open Go.RowKit

def dnI (A0 : List VisD) (t : Nat) (mv : Value) (b cap : Nat) (w : World) (v7 : Value) (wr : World) : Prop :=
  ∃ (i : Nat) (A : List VisD), v7 = .int .i64 (i : Nat) ∧ A.Perm A0 ∧ i ≤ A.length ∧ dnV A i ∧ KeptAt wr t mv b cap A ∧ Only (fun k => k = b) w wr
def DownRet (A0 : List VisD) (t : Nat) (mv : Value) (b cap : Nat) (w : World) (e : Ending) (w' : World) : Prop := (∃ bv, e = .returned (.bool bv)) ∧ HeapRet A0 t mv b cap w w'
/-- what a round may call -/
def Arms (A : List VisD) (t : Nat) (mv : Value) (b cap : Nat) (w : World) : Prop :=
  KeptAt w t mv b cap A ∧ (method 212 44 (.pointer (some ⟨t, 1, none⟩)) "Less").run Try.prog w = .ok (80, .slice (some ⟨b, 0, none⟩) A.length cap) w ∧
  (method 212 44 (.pointer (some ⟨t, 1, none⟩)) "Swap").run Try.prog w = .ok (81, .slice (some ⟨b, 0, none⟩) A.length cap) w ∧
  (∀ p q, p < A.length → q < A.length → Calls Try.prog 80 #[.slice (some ⟨b, 0, none⟩) A.length cap, .int .i64 (p : Nat), .int .i64 (q : Nat)] w (RetB (.bool (betV (vat A q) (vat A p))) w)) ∧
  (∀ p q, p < A.length → q < A.length → Calls Try.prog 81 #[.slice (some ⟨b, 0, none⟩) A.length cap, .int .i64 (p : Nat), .int .i64 (q : Nat)] w fun e w' => e = .returned (.tuple #[]) ∧ KeptR (swpV A p q) b cap w w')
theorem KeptAt.arms {A : List VisD} {t : Nat} {mv : Value} {b cap : Nat} {w : World} (h : KeptAt w t mv b cap A) : Arms A t mv b cap w :=
  ⟨h, meth_less w t b _ cap h.cell, meth_swap w t b _ cap h.cell, fun p q hp hq => kless_any A p q _ cap _ w hp hq h.2.1.rd, fun p q hp hq => kswap_any A p q b cap w hp hq h.2.1⟩
set_option maxRecDepth 100000 in
set_option maxHeartbeats 3200000 in
theorem hdown_any (A0 : List VisD) (i0 t : Nat) (mv : Value) (b cap : Nat) (w : World) (hl : A0.length ≤ 1000000) (hi0 : i0 ≤ A0.length) (hu : dnV A0 i0) (hK : KeptAt w t mv b cap A0) :
    Calls Try.prog 29 #[.iface 44 (.pointer (some ⟨t, 1, none⟩)), .int .i64 (i0 : Nat), .int .i64 (A0.length : Nat)] w (DownRet A0 t mv b cap w) := by
  go_enter Try.func29, Try.ntmps29
  go_wp2_with fail
  go_loopw [7] (fun v7 wr => dnI A0 t mv b cap w v7 wr) (fun v7 _ => A0.length - (intOf v7).toNat)
  case atStart => exact ⟨i0, A0, rfl, .refl _, hi0, hu, hK, Only.refl _ _⟩
  case round =>
    obtain ⟨i, A, rfl, hp, hiA, hdn, hKA, hon⟩ := hrel
    rename World => wo
    have hAl : A0.length = A.length := hp.length_eq.symm
    rw [hAl] at hl ⊢
    have Hal := Lib.hid hAl
    have HA := Lib.hid hKA.arms
    have Hp := Lib.hid hp
    have Hdn := Lib.hid hdn
    have Hon := Lib.hid hon
    have HK := Lib.hid hKA
    clear hK hu hKA hp hdn hon hi0 hAl
    obtain ⟨p, hpi⟩ : ∃ p, 2 * i + 1 = p := ⟨_, rfl⟩
    obtain ⟨q, hqp⟩ : ∃ q, p + 1 = q := ⟨_, rfl⟩
    have hz1 : 2 * (i : Int) + 1 = (p : Nat) := by omega
    have hz2 : (p : Int) + 1 = (q : Nat) := by omega
    have hib : i ≤ 1000000 := by omega
    have hpb : p ≤ 2000001 := by omega
    by_cases hge : A.length ≤ p
    · go_wp2_with fail
      go_ret
      exact ⟨⟨_, rfl⟩, A, Hp.out, dnV_end Hdn.out (fun k k1 k2 k3 => by omega), HK.out, Hon.out⟩
    · have hpA : p < A.length := by omega
      have hiA' : i < A.length := by omega
      have hmL := HA.out.2.1
      by_cases hgq : A.length ≤ q
      · -- one below
        have hone : ∀ k, 1 ≤ k → k < A.length → (k - 1) / 2 = i → k = p := fun k k1 k2 k3 => by omega
        have Hone := Lib.hid hone
        clear hone
        have hxA := hpA
        have HK2 := HK
        have HO2 := Hon
        have hl2 := HA.out.2.2.2.1 p i hpA hiA'
        cases hbv : betV (vat A i) (vat A p) with
        | true =>
          rw [hbv] at hl2
          have Hall := Lib.hid (show ∀ k, 1 ≤ k → k < A.length → (k - 1) / 2 = i → betV (vat A p) (vat A k) = false from fun k k1 k2 k3 => by rw [Hone.out k k1 k2 k3]; exact betV_irr _)
          go_wp2_with (first
            | (refine hl2.mono ?_; rintro e w3 ⟨rfl, hB⟩; have HK3 := Lib.hid (HK2.out.ext hB); have hA3 := HK3.out.arms; have hmS3 := hA3.2.2.1; have hsw := hA3.2.2.2.2 i p hiA' hxA; have HO3 := Lib.hid (HO2.out.ext hB); clear hA3 hB hl2)
            | (refine hsw.mono ?_; rintro e w4 ⟨rfl, hR⟩; have HR := Lib.hid hR; clear hR))
          have hall := Hall.out
          go_roundw
          case rel => exact ⟨p, swpV A i p, rfl, (swpV_perm hiA' hxA).trans Hp.out, by rw [swpV_len]; omega, dnV_step Hdn.out hxA (by omega) (by omega) hbv hall, HK3.out.swap (swpV_len A i p) HR.out, HO3.out.trans HR.out.2 (fun _ _ e => e)⟩
          case measure => have := Hal.out; simp [intOf]; omega
        | false =>
          rw [hbv] at hl2
          go_wp2_with (refine hl2.mono ?_; rintro e w3 ⟨rfl, hB⟩; have HB := Lib.hid hB; clear hB)
          go_ret
          exact ⟨⟨_, rfl⟩, A, Hp.out, dnV_end Hdn.out (fun k k1 k2 k3 => by rw [Hone.out k k1 k2 k3]; exact hbv), HK.out.ext HB.out, Hon.out.ext HB.out⟩
      · -- two below
        have Htwo := Lib.hid (show ∀ k, 1 ≤ k → k < A.length → (k - 1) / 2 = i → k = p ∨ k = q from fun k k1 k2 k3 => by omega)
        have hqA : q < A.length := by omega
        have hl1 := HA.out.2.2.2.1 q p hqA hpA
        cases hpq : betV (vat A p) (vat A q) with
        | true =>
          have hxA := hqA
          rw [hpq] at hl1
          have Hall := Lib.hid (show ∀ k, 1 ≤ k → k < A.length → (k - 1) / 2 = i → betV (vat A q) (vat A k) = false from fun k k1 k2 k3 => by
            rcases Htwo.out k k1 k2 k3 with e | e <;> rw [e]
            · exact betV_asym hpq
            · exact betV_irr _)
          cases hbv : betV (vat A i) (vat A q) with
          | true =>
            go_wp2_with (first
              | (refine hl1.mono ?_; rintro e w2 ⟨rfl, hB⟩; have HK2 := Lib.hid (HK.out.ext hB); have hA2 := HK2.out.arms; have hmL2 := hA2.2.1; have hl2 := hA2.2.2.2.1 q i hxA hiA'; rw [hbv] at hl2; have HO2 := Lib.hid (Hon.out.ext hB); clear hA2 hB hl1)
              | (refine hl2.mono ?_; rintro e w3 ⟨rfl, hB⟩; have HK3 := Lib.hid (HK2.out.ext hB); have hA3 := HK3.out.arms; have hmS3 := hA3.2.2.1; have hsw := hA3.2.2.2.2 i q hiA' hxA; have HO3 := Lib.hid (HO2.out.ext hB); clear hA3 hB hl2)
              | (refine hsw.mono ?_; rintro e w4 ⟨rfl, hR⟩; have HR := Lib.hid hR; clear hR))
            have hall := Hall.out
            go_roundw
            case rel => exact ⟨q, swpV A i q, rfl, (swpV_perm hiA' hxA).trans Hp.out, by rw [swpV_len]; omega, dnV_step Hdn.out hxA (by omega) (by omega) hbv hall, HK3.out.swap (swpV_len A i q) HR.out, HO3.out.trans HR.out.2 (fun _ _ e => e)⟩
            case measure => have := Hal.out; simp [intOf]; omega
          | false =>
            go_wp2_with (first
              | (refine hl1.mono ?_; rintro e w2 ⟨rfl, hB⟩; have HK2 := Lib.hid (HK.out.ext hB); have hA2 := HK2.out.arms; have hmL2 := hA2.2.1; have hl2 := hA2.2.2.2.1 q i hxA hiA'; rw [hbv] at hl2; have HO2 := Lib.hid (Hon.out.ext hB); clear hA2 hB hl1)
              | (refine hl2.mono ?_; rintro e w3 ⟨rfl, hB⟩; have HB := Lib.hid hB; clear hB))
            go_ret
            exact ⟨⟨_, rfl⟩, A, Hp.out, dnV_end Hdn.out (fun k k1 k2 k3 => by
            rcases Htwo.out k k1 k2 k3 with e | e <;> rw [e]
            · exact betV_ntrans hbv (betV_asym hpq)
            · exact hbv), HK2.out.ext HB.out, HO2.out.ext HB.out⟩
        | false =>
          have hxA := hpA
          rw [hpq] at hl1
          have Hall := Lib.hid (show ∀ k, 1 ≤ k → k < A.length → (k - 1) / 2 = i → betV (vat A p) (vat A k) = false from fun k k1 k2 k3 => by
            rcases Htwo.out k k1 k2 k3 with e | e <;> rw [e]
            · exact betV_irr _
            · exact hpq)
          cases hbv : betV (vat A i) (vat A p) with
          | true =>
            go_wp2_with (first
              | (refine hl1.mono ?_; rintro e w2 ⟨rfl, hB⟩; have HK2 := Lib.hid (HK.out.ext hB); have hA2 := HK2.out.arms; have hmL2 := hA2.2.1; have hl2 := hA2.2.2.2.1 p i hxA hiA'; rw [hbv] at hl2; have HO2 := Lib.hid (Hon.out.ext hB); clear hA2 hB hl1)
              | (refine hl2.mono ?_; rintro e w3 ⟨rfl, hB⟩; have HK3 := Lib.hid (HK2.out.ext hB); have hA3 := HK3.out.arms; have hmS3 := hA3.2.2.1; have hsw := hA3.2.2.2.2 i p hiA' hxA; have HO3 := Lib.hid (HO2.out.ext hB); clear hA3 hB hl2)
              | (refine hsw.mono ?_; rintro e w4 ⟨rfl, hR⟩; have HR := Lib.hid hR; clear hR))
            have hall := Hall.out
            go_roundw
            case rel => exact ⟨p, swpV A i p, rfl, (swpV_perm hiA' hxA).trans Hp.out, by rw [swpV_len]; omega, dnV_step Hdn.out hxA (by omega) (by omega) hbv hall, HK3.out.swap (swpV_len A i p) HR.out, HO3.out.trans HR.out.2 (fun _ _ e => e)⟩
            case measure => have := Hal.out; simp [intOf]; omega
          | false =>
            go_wp2_with (first
              | (refine hl1.mono ?_; rintro e w2 ⟨rfl, hB⟩; have HK2 := Lib.hid (HK.out.ext hB); have hA2 := HK2.out.arms; have hmL2 := hA2.2.1; have hl2 := hA2.2.2.2.1 p i hxA hiA'; rw [hbv] at hl2; have HO2 := Lib.hid (Hon.out.ext hB); clear hA2 hB hl1)
              | (refine hl2.mono ?_; rintro e w3 ⟨rfl, hB⟩; have HB := Lib.hid hB; clear hB))
            go_ret
            exact ⟨⟨_, rfl⟩, A, Hp.out, dnV_end Hdn.out (fun k k1 k2 k3 => by
            rcases Htwo.out k k1 k2 k3 with e | e <;> rw [e]
            · exact hbv
            · exact betV_ntrans hbv hpq), HK2.out.ext HB.out, HO2.out.ext HB.out⟩
end Go.Proofs.Ytggcmnjllkncaaa
