/- Sorting a row of uint32 in place, sixth part: what the loop of the sort keeps. No program in sight. -/
import Derived.Test.YtggcmnjllkncaaaBdSort
namespace Go.Proofs.Ytggcmnjllkncaaa
set_option linter.unusedSimpArgs false
set_option linter.unusedVariables false
set_option maxRecDepth 100000
open Go.RowKit

def Srt (a b : Nat) (d : Array Nat) : Prop := ∀ i j, a ≤ i → i < j → j < b → d[i]! ≤ d[j]!
def LowB (a b : Nat) (d : Array Nat) : Prop := a = 0 ∨ ∀ i, a ≤ i → i < b → d[a - 1]! ≤ d[i]!
theorem srt_of {a b : Nat} {d : Array Nat} (h : Sort.SortedIn ltN a b d) : Srt a b d := fun i j h1 h2 h3 => by
  have := h i j h1 h2 h3
  simp only [ltN, decide_eq_false_iff_not] at this
  omega
theorem low_of {a b : Nat} {d : Array Nat} (h : LowB a b d) : Sort.Below ltN a b d := by
  rcases h with h | h
  · exact .inl h
  · exact .inr (fun i h1 h2 => by have := h i h1 h2; simp only [ltN, decide_eq_false_iff_not]; omega)
theorem perm_all {a b : Nat} {d d' : Array Nat} (h : Sort.PermIn a b d d') (hb : b ≤ d.size) {p : Nat → Prop} (hp : ∀ i, a ≤ i → i < b → p d[i]!) : ∀ i, a ≤ i → i < b → p d'[i]! := Sort.permIn_all d d' a b p hb h hp
theorem low_perm {a b : Nat} {d d' : Array Nat} (h : LowB a b d) (hp : Sort.PermIn a b d d') (hb : b ≤ d.size) : LowB a b d' := by
  rcases h with h | h
  · exact .inl h
  · rcases Nat.eq_zero_or_pos a with h0 | h0
    · exact .inl h0
    · right
      rw [hp.2.1 (a - 1) (.inl (by omega))]
      exact perm_all hp hb h

structure PdqInv (a b : Nat) (d : Array Nat) (a' b' : Nat) (dk : Array Nat) : Prop where
  lo : a ≤ a'
  mid : a' ≤ b'
  hi : b' ≤ b
  size : dk.size = d.size
  low : LowB a' b' dk
  fin : ∀ d', Sort.PermIn a' b' dk d' → Srt a' b' d' → Sort.PermIn a b d d' ∧ Srt a b d'

section
variable {a b a' b' : Nat} {d dk dk' : Array Nat}
theorem PdqInv.start (hab : a ≤ b) (hl : LowB a b d) : PdqInv a b d a b d := ⟨Nat.le_refl _, hab, Nat.le_refl _, rfl, hl, fun d' h1 h2 => ⟨h1, h2⟩⟩
theorem PdqInv.perm (h : PdqInv a b d a' b' dk) (hb : b ≤ d.size) (hp : Sort.PermIn a' b' dk dk') : PdqInv a b d a' b' dk' :=
  ⟨h.lo, h.mid, h.hi, hp.1.trans h.size, low_perm h.low hp (by rw [h.size]; exact Nat.le_trans h.hi hb), fun d' h1 h2 => h.fin d' (Sort.permIn_trans _ _ _ _ _ hp h1) h2⟩
theorem PdqInv.done (h : PdqInv a b d a' b' dk) (hp : Sort.PermIn a' b' dk dk') (hs : Sort.SortedIn ltN a' b' dk') : Sort.PermIn a b d dk' ∧ Srt a b dk' := h.fin _ hp (srt_of hs)
/-- the part that is equal to the pivot is in its place -/
theorem PdqInv.eq (h : PdqInv a b d a' b' dk) (hb : b ≤ d.size) {p : Nat} (hp1 : a' ≤ p) (hp2 : p < b') (h0 : 0 < a') (hle : ltN dk[a' - 1]! dk[p]! = false) {m : Nat} {d4 : Array Nat} (hx : Sort.partitionEqual ltN dk a' b' p = (m, d4)) :
    a' < m ∧ PdqInv a b d m b' d4 := by
  have hbk : b' ≤ dk.size := by rw [h.size]; exact Nat.le_trans h.hi hb
  have hl : ∀ i, a' ≤ i → i < b' → dk[p]! ≤ dk[i]! := by
    rcases h.low with h1 | h1
    · omega
    · intro i hi1 hi2
      have := h1 i hi1 hi2
      simp only [ltN, decide_eq_false_iff_not] at hle
      omega
  have hq := Sort.partitionEqual_holds ltN ltN_swo dk a' b' p hp1 hp2 hbk (fun i h1 h2 => by have := hl i h1 h2; simp only [ltN, decide_eq_false_iff_not]; omega)
  rw [hx] at hq
  obtain ⟨q1, q2, q3, q4, q5⟩ := hq
  simp only [ltN, decide_eq_false_iff_not, decide_eq_true_eq] at q1 q2 q3 q4 q5
  have hl4 : ∀ i, a' ≤ i → i < b' → dk[p]! ≤ d4[i]! := perm_all q3 hbk hl
  refine ⟨q1, ⟨by have := h.lo; omega, q2, h.hi, q3.1.trans h.size, .inr (fun i h1 h2 => ?_), fun d' hp hs => ?_⟩⟩
  · have := q4 (m - 1) (by omega) (by omega)
    have := q5 i h1 h2
    omega
  · have hp' : Sort.PermIn a' b' d4 d' := Sort.permIn_mono _ _ _ _ _ _ (by omega) (Nat.le_refl _) (by rw [q3.1]; exact hbk) hp
    have h5 : ∀ i, m ≤ i → i < b' → dk[p]! < d'[i]! := perm_all hp (by rw [q3.1]; exact hbk) q5
    refine h.fin d' (Sort.permIn_trans _ _ _ _ _ q3 hp') (fun i j h1 h2 h3 => ?_)
    rcases Nat.lt_or_ge i m with hi | hi
    · rw [hp.2.1 i (.inl hi)]
      have e1 := q4 i h1 hi
      rcases Nat.lt_or_ge j m with hj | hj
      · rw [hp.2.1 j (.inl hj)]
        have e2 := hl4 j (by omega) (by omega)
        omega
      · have := h5 j hj h3
        omega
    · exact hs i j hi h2 h3
theorem srt_join {a m b : Nat} {d : Array Nat} (h1 : Srt a m d) (h2 : Srt (m + 1) b d) (h3 : ∀ i, a ≤ i → i < m → d[i]! ≤ d[m]!) (h4 : ∀ i, m < i → i < b → d[m]! ≤ d[i]!) : Srt a b d := by
  intro i j hi hij hj
  rcases Nat.lt_trichotomy i m with hm | hm | hm
  · rcases Nat.lt_trichotomy j m with hn | hn | hn
    · exact h1 i j hi hij hn
    · subst hn; exact h3 i hi hm
    · exact Nat.le_trans (h3 i hi hm) (h4 j hn hj)
  · subst hm; exact h4 j hij hj
  · exact h2 i j hm hij hj
/-- partitioned; the left part is sorted: on with the right one -/
theorem PdqInv.left (h : PdqInv a b d a' b' dk) (hb : b ≤ d.size) {p : Nat} (hp1 : a' ≤ p) (hp2 : p < b') {m : Nat} {ap : Bool} {d4 : Array Nat} (hx : Sort.partition ltN dk a' b' p = (m, ap, d4)) :
    a' ≤ m ∧ m < b' ∧ d4.size = d.size ∧ LowB a' m d4 ∧ LowB (m + 1) b' d4 ∧
    (∀ d5, Sort.PermIn a' m d4 d5 → Srt a' m d5 → PdqInv a b d (m + 1) b' d5) ∧ (∀ d5, Sort.PermIn (m + 1) b' d4 d5 → Srt (m + 1) b' d5 → PdqInv a b d a' m d5) := by
  have hbk : b' ≤ dk.size := by rw [h.size]; exact Nat.le_trans h.hi hb
  have hq := Sort.partition_holds ltN ltN_swo dk a' b' p hp1 hp2 hbk
  rw [hx] at hq
  obtain ⟨q1, q2, q3, q4, q5⟩ := hq
  simp only [ltN, decide_eq_false_iff_not, decide_eq_true_eq] at q1 q2 q3 q4 q5
  have hs4 : d4.size = d.size := q3.1.trans h.size
  have hb4 : b' ≤ d4.size := by rw [q3.1]; exact hbk
  have hlo4 := low_perm h.low q3 hbk
  have hloL : LowB a' m d4 := by
    rcases hlo4 with h1 | h1
    · exact .inl h1
    · exact .inr (fun i h2 h3 => h1 i h2 (by omega))
  have hloR : LowB (m + 1) b' d4 := .inr (fun i h1 h2 => by have := q5 i (by omega) h2; simp only [Nat.add_sub_cancel]; omega)
  refine ⟨q1, q2, hs4, hloL, hloR, fun d5 hp hs => ?_, fun d5 hp hs => ?_⟩
  · have e5 : ∀ i, m ≤ i → d5[i]! = d4[i]! := fun i hi => hp.2.1 i (.inr hi)
    have l5 : ∀ i, a' ≤ i → i < m → d5[i]! ≤ d5[m]! := fun i h1 h2 => by
      have := perm_all hp (by omega) (p := fun x => x < d4[m]!) (fun i h1 h2 => q4 i h1 h2) i h1 h2
      rw [e5 m (Nat.le_refl _)]; omega
    refine ⟨by have := h.lo; omega, by omega, h.hi, hp.1.trans hs4, .inr (fun i h1 h2 => ?_), fun d' hp2 hs2 => ?_⟩
    · simp only [Nat.add_sub_cancel]
      rw [e5 i (by omega), e5 m (Nat.le_refl _)]
      have := q5 i (by omega) h2; omega
    · have hP : Sort.PermIn a' b' d4 d' := Sort.permIn_trans _ _ _ _ _ (Sort.permIn_mono _ _ _ _ _ _ (Nat.le_refl _) (by omega) hb4 hp) (Sort.permIn_mono _ _ _ _ _ _ (by omega) (Nat.le_refl _) (by rw [hp.1]; exact hb4) hp2)
      have e6 : ∀ i, i < m + 1 → d'[i]! = d5[i]! := fun i hi => hp2.2.1 i (.inl hi)
      refine h.fin d' (Sort.permIn_trans _ _ _ _ _ q3 hP) (srt_join (m := m) (fun i j h1 h2 h3 => ?_) hs2 (fun i h1 h2 => ?_) (fun i h1 h2 => ?_))
      · rw [e6 i (by omega), e6 j (by omega)]; exact hs i j h1 h2 h3
      · rw [e6 i (by omega), e6 m (by omega)]; exact l5 i h1 h2
      · rw [e6 m (by omega)]
        exact perm_all hp2 (by rw [hp.1]; exact hb4) (p := fun x => d5[m]! ≤ x) (fun i h1 h2 => by rw [e5 i (by omega), e5 m (Nat.le_refl _)]; have := q5 i (by omega) h2; omega) i (by omega) h2
  · have e5 : ∀ i, i < m + 1 → d5[i]! = d4[i]! := fun i hi => hp.2.1 i (.inl hi)
    have l5 : ∀ i, m < i → i < b' → d5[m]! ≤ d5[i]! := fun i h1 h2 => by
      have := perm_all hp hb4 (p := fun x => d4[m]! ≤ x) (fun i h1 h2 => by have := q5 i (by omega) h2; omega) i (by omega) h2
      rw [e5 m (by omega)]; exact this
    refine ⟨h.lo, q1, by have := h.hi; omega, hp.1.trans hs4, ?_, fun d' hp2 hs2 => ?_⟩
    · rcases hloL with h1 | h1
      · exact .inl h1
      · rcases Nat.eq_zero_or_pos a' with h0 | h0
        · exact .inl h0
        · exact .inr (fun i h2 h3 => by rw [e5 i (by omega), e5 (a' - 1) (by omega)]; exact h1 i h2 h3)
    · have hP : Sort.PermIn a' b' d4 d' := Sort.permIn_trans _ _ _ _ _ (Sort.permIn_mono _ _ _ _ _ _ (by omega) (Nat.le_refl _) hb4 hp) (Sort.permIn_mono _ _ _ _ _ _ (Nat.le_refl _) (by omega) (by rw [hp.1]; exact hb4) hp2)
      have e6 : ∀ i, m ≤ i → d'[i]! = d5[i]! := fun i hi => hp2.2.1 i (.inr hi)
      refine h.fin d' (Sort.permIn_trans _ _ _ _ _ q3 hP) (srt_join (m := m) hs2 (fun i j h1 h2 h3 => ?_) (fun i h1 h2 => ?_) (fun i h1 h2 => ?_))
      · rw [e6 i (by omega), e6 j (by omega)]; exact hs i j h1 h2 h3
      · rw [e6 m (Nat.le_refl _)]
        have := perm_all hp2 (by rw [hp.1]; omega) (p := fun x => x ≤ d5[m]!) (fun i h1 h2 => by rw [e5 i (by omega), e5 m (by omega)]; have := q4 i h1 h2; omega) i h1 h2
        exact this
      · rw [e6 m (Nat.le_refl _), e6 i (by omega)]; exact l5 i h1 h2
end
end Go.Proofs.Ytggcmnjllkncaaa
