/- How many rows, how many arcs in a row, of edges' rows. -/
import Derived.Test.YtlgnpogmgpgdaaaGraphRef
namespace Go.Proofs.Ytlgnpogmgpgdaaa
set_option linter.unusedSimpArgs false
set_option linter.unusedVariables false
set_option maxRecDepth 100000
open Go.RowKit

theorem addArc_len15 (A : List ArcD) (x : EdgeD) : (addArc A x).length ≤ A.length + 1 := by
  unfold addArc
  split
  · rename_i y h
    have hl : 0 < A.length := by
      cases A with
      | nil => simp at h
      | cons a A => simp
    split
    · simp <;> omega
    · simp
  · simp
theorem withR_len (m : Nat) (out : List RowD) (x : EdgeD) (h : ∀ r ∈ out, r.2.length ≤ m) : (∀ r ∈ withR out x, r.2.length ≤ m + 1) ∧ (withR out x).length ≤ out.length + 1 := by
  unfold withR
  split
  · rename_i r hr
    have hm := List.mem_of_getLast? hr
    split
    · refine ⟨fun y hy => ?_, ?_⟩
      · rcases List.mem_append.1 hy with hy | hy
        · have := h y (List.dropLast_subset _ hy); omega
        · simp only [List.mem_singleton] at hy
          subst hy
          have h1 := addArc_len15 r.2 x
          have h2 := h r hm
          simp only
          omega
      · simp <;> omega
    · refine ⟨fun y hy => ?_, by simp⟩
      rcases List.mem_append.1 hy with hy | hy
      · have := h y hy; omega
      · simp only [List.mem_singleton] at hy; subst hy; simp
  · refine ⟨fun y hy => ?_, by simp⟩
    simp only [List.mem_singleton] at hy; subst hy; simp
theorem rrowsGo_len : ∀ (ks : List (List UInt8)) (m : Nat) (out : List RowD) (e : Option EdgeD), (∀ r ∈ out, r.2.length ≤ m) → out.length ≤ m → (∀ r ∈ (rrowsGo out e ks).1, r.2.length ≤ m + ks.length) ∧ (rrowsGo out e ks).1.length ≤ m + ks.length
  | [], m, out, e, h, h2 => by unfold rrowsGo; exact ⟨fun r hr => by have := h r hr; simp only [List.length_nil]; omega, by simp only [List.length_nil]; omega⟩
  | k :: ks, m, out, e, h, h2 => by
    unfold rrowsGo
    split
    · simp
    split
    · simp
    split
    · simp
    have h3 := withR_len m out (keyE k) h
    have h4 := rrowsGo_len ks (m + 1) (withR out (keyE k)) (some (keyE k)) h3.1 (by omega)
    rw [List.length_cons, show m + (ks.length + 1) = m + 1 + ks.length by omega]
    exact h4
theorem ofM_len (l : List EdgeD) : (∀ r ∈ (ofM l).1, r.2.length ≤ l.length) ∧ (ofM l).1.length ≤ l.length := by
  unfold ofM
  split
  · simp
  · have h := rrowsGo_len (keysM (sortR l)) 0 [] none (by simp) (by simp)
    rw [Nat.zero_add, keysM, List.length_map, sortR_len] at h
    exact h
theorem arcs15M_len (l : List EdgeD) (v : Nat) : (arcs15M (ofM l).1 v).length ≤ l.length := by
  unfold arcs15M
  split
  · rename_i r h
    exact (ofM_len l).1 r (List.mem_of_find?_eq_some h)
  · simp
end Go.Proofs.Ytlgnpogmgpgdaaa
