/- BestEach's walk. -/
import Derived.Test.YtggcmnjllkncaaaBestLaw
namespace Go.Proofs.Ytggcmnjllkncaaa
set_option linter.unusedSimpArgs false
set_option linter.unusedVariables false
set_option maxRecDepth 100000
open Go.RowKit

set_option maxRecDepth 100000 in
set_option maxHeartbeats 3200000 in
theorem beach_walk (L : List VisD) (ao : Option Addr) (cap : Nat) (most : Int) (fp : Nat → Prop) (w : World) (h0 : -9223372036854775808 ≤ most) (h1 : most ≤ 9223372036854775807) (hrd : RdS visRep fp w ao L) :
    Calls Try.prog 4 #[.slice ao L.length cap, .int .i64 most] w (RetB (.bool true) w) := by
  have HA := Lib.hid awake29_any
  by_cases hl : L.length ≤ 60
  · have g1 : decide (60 < (L.length : Int)) = false := decide_eq_false (by omega)
    have g1' : decide (60 < L.length) = false := decide_eq_false (by omega)
    have HE1 := Lib.hid (each_any L most ao cap fp w (by omega) h0 h1 hrd)
    have HE2 := Lib.hid (fun W (h : Below w.heap.size w W) => reach_any L most ao cap fp W (by omega) h0 h1 (hrd.ext h))
    have HEl := Lib.hid (show ∀ S, SrcsR L S → (eachV S L most.toNat).length ≤ 1000000 from fun S hS => by
      have h2 : ∀ (T : List Nat), (eachV T L most.toNat).length ≤ T.length * 60 := by
        intro T
        induction T with
        | nil => exact Nat.zero_le _
        | cons t T ih =>
          have h3 : (bestL (ofSrc L t) most.toNat).length ≤ 60 := by
            rw [bestL_len]
            have := List.length_filter_le (fun x : VisD => x.1 == t) L
            unfold ofSrc
            omega
          unfold eachV at ih ⊢
          rw [List.flatMap_cons, List.length_append, List.length_cons]
          omega
      have h4 := length_le_of (hS.1.imp (fun {a b} hab => by omega : ∀ {a b : Nat}, a < b → a ≠ b)) (T := L.map (·.1)) (fun s hs => by
        obtain ⟨x, hx, e⟩ := (hS.2 s).1 hs
        exact List.mem_map.2 ⟨x, hx, e⟩)
      rw [List.length_map] at h4
      have := h2 S
      have : S.length * 60 ≤ 60 * 60 := Nat.mul_le_mul_right _ (by omega)
      omega)
    clear hl hrd
    go_enter Try.func4, Try.ntmps4
    go_wp2_with (first
      | (go_at_call 15; refine HE1.out.mono ?_; rintro e w2 ⟨S, hS, a, c, rfl, h1, h2, hrd2, hB2⟩; have HS := Lib.hid hS; have HR2 := Lib.hid hrd2; have HB2 := Lib.hid hB2; clear hS h1 h2 hrd2 hB2)
      | (go_at_call 16; refine (HE2.out _ HB2.out).mono ?_; rintro e w3 ⟨S', hS', a', c', rfl, h1, h2, hrd3, hB3⟩; obtain rfl := HS.out.one hS'; have HSa := Lib.hid (vsame27_any _ a a' c c' _ _ w3 (HEl.out S hS') (HR2.out.ext hB3) hrd3); have HB3 := Lib.hid (HB2.out.trans (hB3.mono HB2.out.size)); clear hS' h1 h2 hrd3 hB3)
      | (go_at_call 13; refine HSa.out.mono ?_; rintro e w4 ⟨rfl, q, rfl⟩)
      | (go_at_call 7; refine (HA.out _).mono ?_; rintro e w5 ⟨rfl, hB5⟩; have HB5 := Lib.hid hB5; clear hB5))
    go_ret
    exact ⟨rfl, (HB3.out.trans ((ext_drewN w3 q).mono HB3.out.size)).trans (HB5.out.mono HB3.out.size)⟩
  · have g1 : decide (60 < (L.length : Int)) = true := decide_eq_true (by omega)
    have g1' : decide (60 < L.length) = true := decide_eq_true (by omega)
    clear hrd
    go_enter Try.func4, Try.ntmps4
    go_wp2_with (go_at_call 7; refine (HA.out _).mono ?_; rintro e w5 ⟨rfl, hB5⟩; have HB5 := Lib.hid hB5; clear hB5)
    go_ret
    exact ⟨rfl, HB5.out⟩
end Go.Proofs.Ytggcmnjllkncaaa
