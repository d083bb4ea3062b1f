/- heap.up at *kept. -/
import Derived.Handy
import Derived.Test.YtggcmnjllkncaaaBestMeth
namespace Go.Proofs.Ytggcmnjllkncaaa
set_option linter.unusedSimpArgs false
set_option linter.unusedVariables false
set_option maxRecDepth 100000
open Go.RowKit

/-- the kept ones behind the top at t: A, at the block b -/
def KeptAt (w : World) (t : Nat) (mv : Value) (b cap : Nat) (A : List VisD) : Prop := TopAt w t mv (some ⟨b, 0, none⟩) A.length cap ∧ OwnS visRep (fun _ => False) w (some ⟨b, 0, none⟩) cap (some b) 31 A ∧ b ≠ t
theorem KeptAt.ext {w w' : World} {t : Nat} {mv : Value} {b cap : Nat} {A : List VisD} (h : KeptAt w t mv b cap A) (hB : Below w.heap.size w w') : KeptAt w' t mv b cap A :=
  ⟨(hB.block t (Array.getElem?_eq_some_iff.1 h.1).1).trans h.1, h.2.1.ext hB, h.2.2⟩
theorem KeptAt.swap {w w' : World} {t : Nat} {mv : Value} {b cap : Nat} {A A' : List VisD} (h : KeptAt w t mv b cap A) (hl : A'.length = A.length) (hk : KeptR A' b cap w w') : KeptAt w' t mv b cap A' := by
  refine ⟨?_, hk.1, h.2.2⟩
  unfold TopAt
  rw [hl]
  exact (hk.2.same t (Array.getElem?_eq_some_iff.1 h.1).1 (fun e => h.2.2 e.symm)).trans h.1
theorem KeptAt.cell {w : World} {t : Nat} {mv : Value} {b cap : Nat} {A : List VisD} (h : KeptAt w t mv b cap A) : w.cell? ⟨t, 1, none⟩ = some (.slice (some ⟨b, 0, none⟩) A.length cap) := cell_of_row w t 1 _ _ (0, 0) h.1
def upI (A0 : List VisD) (t : Nat) (mv : Value) (b cap : Nat) (w : World) (v1 : Value) (wr : World) : Prop :=
  ∃ (j : Nat) (A : List VisD), v1 = .int .i64 (j : Nat) ∧ A.Perm A0 ∧ j < A.length ∧ upV A j ∧ KeptAt wr t mv b cap A ∧ Only (fun k => k = b) w wr
def HeapRet (A0 : List VisD) (t : Nat) (mv : Value) (b cap : Nat) (w : World) (w' : World) : Prop := ∃ A, A.Perm A0 ∧ hpV A ∧ KeptAt w' t mv b cap A ∧ Only (fun k => k = b) w w'
theorem halfV (j : Nat) : ((j : Int) - 1).tdiv 2 = (((j - 1) / 2 : Nat) : Int) := by
  rcases Nat.eq_zero_or_pos j with h | h
  · subst h; decide
  · rw [Int.tdiv_eq_ediv_of_nonneg (by omega)]; omega
set_option maxRecDepth 100000 in
set_option maxHeartbeats 3200000 in
theorem hup_any (A0 : List VisD) (j0 t : Nat) (mv : Value) (b cap : Nat) (w : World) (hl : A0.length ≤ 1000000) (hj : j0 < A0.length) (hu : upV A0 j0) (hK : KeptAt w t mv b cap A0) :
    Calls Try.prog 25 #[.iface 44 (.pointer (some ⟨t, 1, none⟩)), .int .i64 (j0 : Nat)] w fun e w' => e = .returned (.tuple #[]) ∧ HeapRet A0 t mv b cap w w' := by
  go_enter Try.func25, Try.ntmps25
  go_wp2_with fail
  go_loopw [1] (fun v1 wr => upI A0 t mv b cap w v1 wr) (fun v1 _ => (intOf v1).toNat)
  case atStart => exact ⟨j0, A0, rfl, .refl _, hj, hu, hK, Only.refl _ _⟩
  case round =>
    obtain ⟨j, A, rfl, hp, hjA, hup, hKA, hon⟩ := hrel
    rename World => wo
    have Hal := Lib.hid (hp.length_eq)
    have hc := hKA.cell
    have HK := Lib.hid hKA
    have Hp := Lib.hid hp
    have Hup := Lib.hid hup
    have Hon := Lib.hid hon
    clear hK hu hKA hp hup hon
    have hmL := meth_less wo t b A.length cap hc
    by_cases h0 : j = 0
    · subst h0
      have HE := Lib.hid (upV_end Hup.out (.inl rfl))
      go_wp2_with fail
      go_end0
      exact ⟨rfl, A, Hp.out, HE.out, HK.out, Hon.out⟩
    · obtain ⟨i, hi⟩ : ∃ i, (j - 1) / 2 = i := ⟨_, rfl⟩
      have hq : ((j : Int) - 1).tdiv 2 = (i : Nat) := by rw [halfV, hi]
      have hq2 : ((j : Int) - 1) / 2 = (i : Nat) := by omega
      have hjb : j ≤ 1000000 := by have := Hal.out; omega
      have hiA : i < A.length := by omega
      have hij : i < j := by omega
      have hless := kless_any A j i (some ⟨b, 0, none⟩) cap _ wo hjA hiA HK.out.2.1.rd
      have hne : ((i : Int) == (j : Int)) = false := by simp; omega
      cases hbv : betV (vat A i) (vat A j) with
      | true =>
        rw [hbv] at hless
        have HN := Lib.hid (show ∀ w2, Below wo.heap.size wo w2 → Hid (KeptAt w2 t mv b cap A) ∧ (method 212 44 (.pointer (some ⟨t, 1, none⟩)) "Swap").run Try.prog w2 = .ok (81, .slice (some ⟨b, 0, none⟩) A.length cap) w2 ∧ Calls Try.prog 81 #[.slice (some ⟨b, 0, none⟩) A.length cap, .int .i64 (i : Nat), .int .i64 (j : Nat)] w2 (fun e w' => e = .returned (.tuple #[]) ∧ KeptR (swpV A i j) b cap w2 w') from fun w2 hB =>
          have hk := HK.out.ext hB
          ⟨Lib.hid hk, meth_swap w2 t b A.length cap hk.cell, kswap_any A i j b cap w2 hiA hjA hk.2.1⟩)
        go_wp2_with (first
          | (refine hless.mono ?_; rintro e w2 ⟨rfl, hB⟩; obtain ⟨HK2, hmS, hsw⟩ := HN.out w2 hB; have HB := Lib.hid hB; clear hB)
          | (refine hsw.mono ?_; rintro e w3 ⟨rfl, hR⟩; have HR := Lib.hid hR; clear hR))
        go_roundw
        case rel => exact ⟨i, swpV A i j, rfl, (swpV_perm hiA hjA).trans Hp.out, by rw [swpV_len]; exact hiA, (hi ▸ upV_step Hup.out (by omega) hjA (by rw [hi]; exact hbv)), HK2.out.swap (swpV_len A i j) HR.out, (Hon.out.ext HB.out).trans HR.out.2 (fun _ _ e => e)⟩
        case measure => simp [intOf]; omega
      | false =>
        rw [hbv] at hless
        go_wp2_with (first
          | (refine hless.mono ?_; rintro e w2 ⟨rfl, hB⟩; have HB := Lib.hid hB; clear hB))
        go_end0
        exact ⟨rfl, A, Hp.out, upV_end Hup.out (.inr (by rw [hi]; exact hbv)), HK.out.ext HB.out, Hon.out.ext HB.out⟩
end Go.Proofs.Ytggcmnjllkncaaa
