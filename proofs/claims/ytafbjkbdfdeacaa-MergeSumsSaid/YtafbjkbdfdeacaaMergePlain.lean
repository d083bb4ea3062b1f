/- Rows out of keys, told one by one. No program in sight. -/
import Derived.Test.YtafbjkbdfdeacaaMergeSame
namespace Go.Proofs.Ytafbjkbdfdeacaa
set_option linter.unusedSimpArgs false
set_option linter.unusedVariables false
open Go.RowKit

def okRow (row : RowD) : Prop := row.1 < 4294967296 ∧ (∀ a ∈ row.2, okA a) ∧ sumA row.2 ≤ 2147483647
theorem sumA_append (l m : List ArcD) : sumA (l ++ m) = sumA l + sumA m := by simp [sumA]
theorem sumA_one (a : ArcD) : sumA [a] = a.2 := by simp [sumA]
theorem addArc_snoc (l : List ArcD) (a : ArcD) (x : EdgeD) : addArc (l ++ [a]) x = if a.1 = x.2.1 then l ++ [(a.1, a.2 + x.2.2)] else l ++ [a] ++ [(x.2.1, x.2.2)] := by
  unfold addArc
  simp only [List.getLast?_concat, List.dropLast_concat]
theorem addArc_sum (l : List ArcD) (x : EdgeD) : sumA (addArc l x) = sumA l + x.2.2 := by
  rcases List.eq_nil_or_concat l with rfl | ⟨l', a, rfl⟩
  · simp [addArc, sumA]
  · rw [List.concat_eq_append, addArc_snoc]
    split <;> simp [sumA] <;> omega
theorem addArc_len (l : List ArcD) (x : EdgeD) : (addArc l x).length ≤ l.length + 1 ∧ 0 < (addArc l x).length := by
  rcases List.eq_nil_or_concat l with rfl | ⟨l', a, rfl⟩
  · simp [addArc]
  · rw [List.concat_eq_append, addArc_snoc]
    split <;> simp
theorem takeM_len (row : RowD) (x : EdgeD) : (takeM row x).2.length ≤ row.2.length + 1 ∧ 0 < (takeM row x).2.length := by
  unfold takeM
  split
  · exact addArc_len _ _
  · simp
theorem takeM_from (row : RowD) (x : EdgeD) : (takeM row x).1 = x.1 := by
  unfold takeM
  split
  · rename_i h; exact h.2
  · rfl
theorem takeM_ok {row : RowD} {x : EdgeD} (h : okRow row) (hx : okE x) (hl : x.2.2 ≤ leftOf row x) : okRow (takeM row x) := by
  refine ⟨by rw [takeM_from]; exact hx.1, ?_⟩
  unfold leftOf at hl
  unfold takeM
  obtain ⟨h1, h2, h3⟩ := h
  split
  · rename_i hs
    rw [if_pos hs] at hl
    simp only
    refine ⟨?_, by rw [addArc_sum]; omega⟩
    rcases List.eq_nil_or_concat row.2 with he | ⟨l', a, he⟩
    · have := hs.1; rw [he] at this; simp at this
    · rw [List.concat_eq_append] at he
      rw [he] at h2 h3 hl ⊢
      rw [sumA_append, sumA_one] at h3 hl
      rw [addArc_snoc]
      intro y hy
      split at hy
      · rcases List.mem_append.1 hy with h | h
        · exact h2 y (List.mem_append.2 (.inl h))
        · rw [List.mem_singleton.1 h]
          exact ⟨(h2 a (by simp)).1, by simp only; omega⟩
      · rcases List.mem_append.1 hy with h | h
        · exact h2 y h
        · rw [List.mem_singleton.1 h]
          exact ⟨hx.2.1, hx.2.2⟩
  · rename_i hs
    rw [if_neg hs] at hl
    simp only
    exact ⟨fun a ha => by rw [List.mem_singleton.1 ha]; exact ⟨hx.2.1, hx.2.2⟩, by rw [sumA_one]; exact hl⟩
theorem full_not {row : RowD} {x : EdgeD} (h : fullB row x = true) : ¬ sameRow row x := by
  unfold fullB at h
  rintro ⟨h1, h2⟩
  simp [h2] at h
/-- what is told of keys: rows, and at last an error's number (0: none) -/
def mtold : RowD → List UInt8 → List (List UInt8) → List RowD × Nat
  | row, _, [] => (if 0 < row.2.length then [row] else [], 0)
  | row, last, k :: ks =>
    if mayErr row last k ≠ 0 then ([], mayErr row last k) else
    ((if fullB row (keyE k) = true then [row] else []) ++ (mtold (takeM row (keyE k)) k ks).1, (mtold (takeM row (keyE k)) k ks).2)
def toldRE (row : RowD) (last : List UInt8) (ks : List (List UInt8)) : List (RowD × Nat) :=
  (mtold row last ks).1.map (fun p => (p, 0)) ++ if (mtold row last ks).2 = 0 then [] else [((0, []), (mtold row last ks).2)]
theorem toldRE_nil (row : RowD) (last : List UInt8) : toldRE row last [] = if 0 < row.2.length then [(row, 0)] else [] := by
  unfold toldRE mtold
  split <;> simp
theorem toldRE_bad (row : RowD) (last k : List UInt8) (ks : List (List UInt8)) (h : mayErr row last k ≠ 0) : toldRE row last (k :: ks) = [((0, []), mayErr row last k)] := by
  unfold toldRE mtold
  simp [h]
theorem toldRE_ok (row : RowD) (last k : List UInt8) (ks : List (List UInt8)) (h : mayErr row last k = 0) :
    toldRE row last (k :: ks) = (if fullB row (keyE k) = true then [(row, 0)] else []) ++ toldRE (takeM row (keyE k)) k ks := by
  unfold toldRE
  conv => lhs; unfold mtold
  rw [if_neg (by simp [h])]
  split <;> simp
theorem mtold_len : ∀ (ks : List (List UInt8)) (row : RowD) (last : List UInt8), (mtold row last ks).1.length ≤ ks.length + 1
  | [], row, last => by unfold mtold; split <;> simp
  | k :: ks, row, last => by
    have ih := mtold_len ks (takeM row (keyE k)) k
    unfold mtold
    split
    · simp
    · simp only [List.length_append, List.length_cons]
      split <;> simp <;> omega
theorem toldRE_len (ks : List (List UInt8)) (row : RowD) (last : List UInt8) : (toldRE row last ks).length ≤ ks.length + 2 := by
  unfold toldRE
  have := mtold_len ks row last
  rw [List.length_append, List.length_map]
  split <;> simp <;> omega
theorem may_ok {row : RowD} {last k : List UInt8} (h : mayErr row last k = 0) : k.length = 12 ∧ (keyE k).2.2 ≠ 0 ∧ ¬ Lib.compareBytes k last < 0 ∧ (keyE k).2.2 ≤ leftOf row (keyE k) := by
  unfold mayErr at h
  split at h
  · cases h
  · rename_i h1
    split at h
    · cases h
    · rename_i h2
      split at h
      · cases h
      · rename_i h3
        exact ⟨by omega, by omega, h2, by omega⟩
/-- all rows, or the error -/
def rowsOf (ks : List (List UInt8)) : List RowD × Nat := if (mtold (0, []) [] ks).2 = 0 then ((mtold (0, []) [] ks).1, 0) else ([], (mtold (0, []) [] ks).2)
theorem toldRE_all {α : Type} {ks : List (List UInt8)} {xs : List ((RowD × Nat) × α)} (h : xs.map (·.1) = toldRE (0, []) [] ks) (h0 : ∀ x ∈ xs, x.1.2 = 0) : rowsOf ks = (xs.map (·.1.1), 0) := by
  have he : (mtold (0, []) [] ks).2 = 0 := by
    apply Decidable.byContradiction
    intro hne
    have hm : ((0, []), (mtold (0, []) [] ks).2) ∈ toldRE (0, []) [] ks := by unfold toldRE; rw [if_neg hne]; simp
    rw [← h] at hm
    obtain ⟨x, hx, hx2⟩ := List.mem_map.1 hm
    have := h0 x hx
    rw [hx2] at this
    exact hne this
  have h2 : (mtold (0, []) [] ks).1 = xs.map (·.1.1) := by
    have h3 := congrArg (List.map (·.1)) h
    unfold toldRE at h3
    rw [if_pos he, List.append_nil] at h3
    simpa [Function.comp_def] using h3.symm
  unfold rowsOf
  rw [if_pos he, h2]
theorem toldRE_stop {α : Type} {ks : List (List UInt8)} {pre : List ((RowD × Nat) × α)} {x : (RowD × Nat) × α} (h : (pre ++ [x]).map (·.1) <+: toldRE (0, []) [] ks) (h0 : x.1.2 ≠ 0) : rowsOf ks = ([], x.1.2) := by
  have hm : x.1 ∈ toldRE (0, []) [] ks := h.subset (by simp)
  unfold toldRE at hm
  rcases List.mem_append.1 hm with h1 | h1
  · obtain ⟨p, _, hp⟩ := List.mem_map.1 h1
    rw [← hp] at h0; exact absurd rfl h0
  · split at h1
    · simp at h1
    · rename_i hne
      rw [List.mem_singleton.1 h1]
      unfold rowsOf
      rw [if_neg hne]
theorem mtold_ok : ∀ (ks : List (List UInt8)) (row : RowD) (last : List UInt8), okRow row → ∀ r ∈ (mtold row last ks).1, okRow r
  | [], row, last, h, r, hr => by
    unfold mtold at hr
    simp only at hr
    split at hr
    · rw [List.mem_singleton.1 hr]; exact h
    · simp at hr
  | k :: ks, row, last, h, r, hr => by
    unfold mtold at hr
    split at hr
    · simp at hr
    · rename_i h0
      have h0 : mayErr row last k = 0 := by simpa using h0
      have ih := mtold_ok ks (takeM row (keyE k)) k (takeM_ok h (keyE_ok k) (may_ok h0).2.2.2)
      rcases List.mem_append.1 hr with h1 | h1
      · split at h1
        · rw [List.mem_singleton.1 h1]; exact h
        · simp at h1
      · exact ih r h1

set_option maxHeartbeats 1600000 in
theorem take_any (m : Nat) (row : RowD) (last : List UInt8) (ao : Option Addr) (cap : Nat) (g : Option Nat) (lo : Option Addr) (lc : Nat) (x : EdgeD) (w : World) (h : MG m row last ao cap g lo lc w) (hx : okE x) (hlen : row.2.length ≤ 1073741824)
    (hleft : x.2.2 ≤ leftOf row x) (hsm : sumA row.2 ≤ 2147483647) :
    Calls Try.prog 47 #[.pointer (some ⟨m, 0, none⟩), edgeV x] w fun e w' => e = .returned (.tuple #[]) ∧ ∃ ao' cap' g', MG m (takeM row x) last ao' cap' g' lo lc w' ∧ (∀ k, g' = some k → (sameRow row x ∧ g = some k) ∨ w.heap.size ≤ k) ∧ Only (fun k => k = m ∨ (sameRow row x ∧ g = some k)) w w' := by
  by_cases hs : sameRow row x
  · refine (take_same m row last ao cap g lo lc x w h hx hlen hleft hs hsm).mono ?_
    rintro e w' ⟨rfl, ao', cap', g', h1, h2, h3⟩
    exact ⟨rfl, ao', cap', g', h1, fun k hk => (h2 k hk).imp (fun h => ⟨hs, h⟩) id, h3.mono (fun k _ hk => hk.imp id (fun h => ⟨hs, h⟩))⟩
  · refine (take_new m row last ao cap lo lc x w h.toH hx hs).mono ?_
    rintro e w' ⟨rfl, ao', cap', g', h1, h2, h3⟩
    exact ⟨rfl, ao', cap', g', h1, fun k hk => .inr (h2 k hk), h3.mono (fun k _ hk => .inl hk)⟩
end Go.Proofs.Ytafbjkbdfdeacaa
