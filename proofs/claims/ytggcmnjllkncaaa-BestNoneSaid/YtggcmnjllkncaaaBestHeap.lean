/- Heaps of visits: up, down. No program in sight. -/
import Derived.Test.YtggcmnjllkncaaaBestPlain
namespace Go.Proofs.Ytggcmnjllkncaaa
set_option linter.unusedSimpArgs false
set_option linter.unusedVariables false
set_option maxRecDepth 100000

def vat (A : List VisD) (k : Nat) : VisD := A.getD k (0, 0, 0)
theorem vat_get {A : List VisD} {k : Nat} (h : k < A.length) : vat A k = A[k] := by unfold vat; rw [List.getD_eq_getElem?_getD, List.getElem?_eq_getElem h]; rfl
def swpV (A : List VisD) (i j : Nat) : List VisD := (A.set i (vat A j)).set j (vat A i)
theorem swpV_len (A : List VisD) (i j : Nat) : (swpV A i j).length = A.length := by simp [swpV]
theorem vat_set {A : List VisD} {i k : Nat} {x : VisD} (hi : i < A.length) : vat (A.set i x) k = if k = i then x else vat A k := by
  unfold vat
  rw [List.getD_eq_getElem?_getD, List.getElem?_set]
  by_cases h : k = i
  · subst h; simp [hi]
  · rw [if_neg (fun e => h e.symm), if_neg h, List.getD_eq_getElem?_getD]
theorem vat_swp {A : List VisD} {i j : Nat} (hi : i < A.length) (hj : j < A.length) (k : Nat) : vat (swpV A i j) k = if k = j then vat A i else if k = i then vat A j else vat A k := by
  unfold swpV
  rw [vat_set (by rw [List.length_set]; exact hj), vat_set hi]
theorem swpV_perm {A : List VisD} {i j : Nat} (hi : i < A.length) (hj : j < A.length) : (swpV A i j).Perm A := by
  unfold swpV
  rw [vat_get hi, vat_get hj]
  exact List.set_set_perm hi hj
def hpV (A : List VisD) : Prop := ∀ k, 1 ≤ k → k < A.length → betV (vat A ((k - 1) / 2)) (vat A k) = false
theorem hpV_root {A : List VisD} (h : hpV A) : ∀ k, k < A.length → betV (vat A 0) (vat A k) = false := by
  intro k
  induction k using Nat.strongRecOn with
  | _ k ih =>
    intro hk
    by_cases h0 : k = 0
    · subst h0; exact betV_irr _
    · exact betV_ntrans (ih ((k - 1) / 2) (by omega) (by omega)) (h k (by omega) hk)
/-- a heap but for j, which may be worse than the one above it -/
def upV (A : List VisD) (j : Nat) : Prop :=
  (∀ k, 1 ≤ k → k < A.length → k ≠ j → betV (vat A ((k - 1) / 2)) (vat A k) = false) ∧ (1 ≤ j → ∀ k, 1 ≤ k → k < A.length → (k - 1) / 2 = j → betV (vat A ((j - 1) / 2)) (vat A k) = false)
theorem upV_end {A : List VisD} {j : Nat} (h : upV A j) (hj : j = 0 ∨ betV (vat A ((j - 1) / 2)) (vat A j) = false) : hpV A := fun k h1 h2 => by
  by_cases e : k = j
  · subst e
    rcases hj with hj | hj
    · omega
    · exact hj
  · exact h.1 k h1 h2 e
theorem upV_step {A : List VisD} {j : Nat} (h : upV A j) (h0 : 1 ≤ j) (hj : j < A.length) (hb : betV (vat A ((j - 1) / 2)) (vat A j) = true) : upV (swpV A ((j - 1) / 2) j) ((j - 1) / 2) := by
  obtain ⟨h1, h2⟩ := h
  have hi : (j - 1) / 2 < A.length := by omega
  have hne : (j - 1) / 2 ≠ j := by omega
  have hv := vat_swp hi hj
  refine ⟨fun k k1 k2 k3 => ?_, fun hi1 k k1 k2 k3 => ?_⟩
  · rw [swpV_len] at k2
    rw [hv k, hv ((k - 1) / 2)]
    by_cases e : k = j
    · subst e
      rw [if_neg hne, if_pos rfl, if_pos rfl]
      exact betV_asym hb
    · rw [if_neg e, if_neg k3]
      by_cases e2 : (k - 1) / 2 = j
      · rw [if_pos e2]
        exact h2 h0 k k1 k2 e2
      · rw [if_neg e2]
        by_cases e3 : (k - 1) / 2 = (j - 1) / 2
        · rw [if_pos e3]
          have h3 := h1 k k1 k2 e
          rw [e3] at h3
          exact betV_ntrans (betV_asym hb) h3
        · rw [if_neg e3]
          exact h1 k k1 k2 e
  · rw [swpV_len] at k2
    have e1 : ((j - 1) / 2 - 1) / 2 ≠ j := by omega
    have e2 : ((j - 1) / 2 - 1) / 2 ≠ (j - 1) / 2 := by omega
    rw [hv k, hv (((j - 1) / 2 - 1) / 2), if_neg e1, if_neg e2]
    have hpi := h1 ((j - 1) / 2) hi1 hi hne
    by_cases e : k = j
    · rw [if_pos e]
      exact hpi
    · rw [if_neg e, if_neg (by omega)]
      have h3 := h1 k k1 k2 e
      rw [k3] at h3
      exact betV_ntrans hpi h3
theorem upV_push {K : List VisD} (h : hpV K) (x : VisD) : upV (K ++ [x]) K.length := by
  have hv : ∀ k, k < K.length → vat (K ++ [x]) k = vat K k := fun k hk => by
    rw [vat_get (by simp; omega), vat_get hk, List.getElem_append_left hk]
  refine ⟨fun k k1 k2 k3 => ?_, fun h0 k k1 k2 k3 => ?_⟩
  · rw [List.length_append, List.length_singleton] at k2
    rw [hv k (by omega), hv _ (by omega)]
    exact h k k1 (by omega)
  · rw [List.length_append, List.length_singleton] at k2
    omega
/-- a heap but for i, of which those below may be worse -/
def dnV (A : List VisD) (i : Nat) : Prop :=
  (∀ k, 1 ≤ k → k < A.length → (k - 1) / 2 ≠ i → betV (vat A ((k - 1) / 2)) (vat A k) = false) ∧ (1 ≤ i → ∀ k, 1 ≤ k → k < A.length → (k - 1) / 2 = i → betV (vat A ((i - 1) / 2)) (vat A k) = false)
theorem dnV_end {A : List VisD} {i : Nat} (h : dnV A i) (hj : ∀ k, 1 ≤ k → k < A.length → (k - 1) / 2 = i → betV (vat A i) (vat A k) = false) : hpV A := fun k h1 h2 => by
  by_cases e : (k - 1) / 2 = i
  · rw [e]; exact hj k h1 h2 e
  · exact h.1 k h1 h2 e
/-- j: the worse one below i, and it is worse than i -/
theorem dnV_step {A : List VisD} {i j : Nat} (h : dnV A i) (hj : j < A.length) (hji : (j - 1) / 2 = i) (h0 : 1 ≤ j) (hb : betV (vat A i) (vat A j) = true)
    (hw : ∀ k, 1 ≤ k → k < A.length → (k - 1) / 2 = i → betV (vat A j) (vat A k) = false) : dnV (swpV A i j) j := by
  obtain ⟨h1, h2⟩ := h
  have hi : i < A.length := by omega
  have hne : i ≠ j := by omega
  have hv := vat_swp hi hj
  refine ⟨fun k k1 k2 k3 => ?_, fun _ k k1 k2 k3 => ?_⟩
  · rw [swpV_len] at k2
    rw [hv k, hv ((k - 1) / 2), if_neg k3]
    by_cases e2 : (k - 1) / 2 = i
    · rw [if_pos e2]
      by_cases e : k = j
      · subst e; rw [if_pos rfl]; exact betV_asym hb
      · rw [if_neg e, if_neg (by omega)]
        exact hw k k1 k2 e2
    · rw [if_neg e2]
      by_cases e : k = i
      · subst e
        rw [if_neg hne, if_pos rfl]
        exact h2 k1 j h0 hj hji
      · rw [if_neg (by omega), if_neg e]
        exact h1 k k1 k2 e2
  · rw [swpV_len] at k2
    rw [hv k, hv ((j - 1) / 2), hji, if_neg hne, if_pos rfl, if_neg (by omega), if_neg (by omega)]
    have h3 := h1 k k1 k2 (by omega)
    rw [k3] at h3
    exact h3
theorem dnV_root {A : List VisD} (h : hpV A) (x : VisD) : dnV (A.set 0 x) 0 := by
  refine ⟨fun k k1 k2 k3 => ?_, fun h0 => by omega⟩
  rw [List.length_set] at k2
  rw [vat_set (by omega), vat_set (by omega), if_neg k3, if_neg (by omega)]
  exact h k k1 k2
end Go.Proofs.Ytggcmnjllkncaaa
