/- MergeSums: pairs and arcs. No program in sight. -/
import Derived.Test.YtafbjkbdfdeacaaMergeCanon2
namespace Go.Proofs.Ytafbjkbdfdeacaa
set_option linter.unusedSimpArgs false
set_option linter.unusedVariables false
open Go.RowKit

theorem nodup_le {α : Type} [DecidableEq α] : ∀ (l m : List α), l.Nodup → (∀ x ∈ l, x ∈ m) → l.length ≤ m.length
  | [], m, _, _ => by simp
  | x :: l, m, hn, h => by
    rw [List.nodup_cons] at hn
    have hx : x ∈ m := h x (by simp)
    have ih := nodup_le l (m.erase x) hn.2 (fun y hy => by
      have hne : y ≠ x := fun e => hn.1 (e ▸ hy)
      exact (List.mem_erase_of_ne hne).2 (h y (by simp [hy])))
    rw [List.length_erase_of_mem hx] at ih
    have := List.length_pos_of_mem hx
    simp only [List.length_cons]; omega
/-- the pairs of vertices, each once -/
def pairsOf : List EdgeD → List (Nat × Nat) → List (Nat × Nat)
  | [], acc => acc
  | x :: l, acc => pairsOf l (if (x.1, x.2.1) ∈ acc then acc else acc ++ [(x.1, x.2.1)])
def pairsU (l : List EdgeD) : List (Nat × Nat) := pairsOf l []
theorem pairsOf_snoc : ∀ (l : List EdgeD) (x : EdgeD) (acc : List (Nat × Nat)), pairsOf (l ++ [x]) acc = if (x.1, x.2.1) ∈ pairsOf l acc then pairsOf l acc else pairsOf l acc ++ [(x.1, x.2.1)]
  | [], x, acc => rfl
  | y :: l, x, acc => by
    rw [List.cons_append]
    unfold pairsOf
    exact pairsOf_snoc l x _
theorem pairsU_all (l : List EdgeD) : (pairsU l).Nodup ∧ ∀ p, p ∈ pairsU l ↔ ∃ x ∈ l, (x.1, x.2.1) = p := by
  generalize hn : l.length = n
  induction n generalizing l with
  | zero =>
    obtain rfl := List.eq_nil_of_length_eq_zero hn
    exact ⟨by simp [pairsU, pairsOf], fun p => by simp [pairsU, pairsOf]⟩
  | succ n ih =>
    rcases List.eq_nil_or_concat l with rfl | ⟨l', x, hx⟩
    · simp at hn
    · rw [List.concat_eq_append] at hx
      subst hx
      obtain ⟨h1, h2⟩ := ih l' (by simpa using hn)
      unfold pairsU at h1 h2 ⊢
      rw [pairsOf_snoc]
      by_cases hm : (x.1, x.2.1) ∈ pairsOf l' []
      · rw [if_pos hm]
        refine ⟨h1, fun p => ?_⟩
        rw [h2]
        constructor
        · rintro ⟨y, hy, he⟩; exact ⟨y, by simp [hy], he⟩
        · rintro ⟨y, hy, he⟩
          rcases List.mem_append.1 hy with h | h
          · exact ⟨y, h, he⟩
          · rw [List.mem_singleton.1 h] at he
            rw [← he]; exact (h2 _).1 hm
      · rw [if_neg hm]
        refine ⟨?_, fun p => ?_⟩
        · rw [List.nodup_append]
          exact ⟨h1, by simp, fun a ha b hb => by rw [List.mem_singleton.1 hb]; exact fun e => hm (e ▸ ha)⟩
        · rw [List.mem_append, h2, List.mem_singleton]
          constructor
          · rintro (⟨y, hy, he⟩ | he)
            · exact ⟨y, by simp [hy], he⟩
            · exact ⟨x, by simp, he.symm⟩
          · rintro ⟨y, hy, he⟩
            rcases List.mem_append.1 hy with h | h
            · exact .inl ⟨y, h, he⟩
            · rw [List.mem_singleton.1 h] at he; exact .inr he.symm
/-- the rows' pairs -/
def pairsR (R : List RowD) : List (Nat × Nat) := R.flatMap (fun r => r.2.map (fun a => (r.1, a.1)))
def arcsN (R : List RowD) : Nat := (R.map (fun r => r.2.length)).sum
theorem pairsR_len (R : List RowD) : (pairsR R).length = arcsN R := by
  unfold pairsR arcsN
  rw [List.length_flatMap]
  congr 1
  apply List.map_congr_left
  intro r _
  simp
theorem pairsR_nodup {R : List RowD} (h : canonR R) : (pairsR R).Nodup := by
  obtain ⟨h1, h2⟩ := h
  induction R with
  | nil => simp [pairsR]
  | cons r R ih =>
    rw [List.pairwise_cons] at h1
    have hr := h2 r (by simp)
    unfold pairsR at ih ⊢
    rw [List.flatMap_cons, List.nodup_append]
    refine ⟨?_, ih h1.2 (fun q hq => h2 q (by simp [hq])), ?_⟩
    · have := hr.2.1
      unfold List.Nodup
      rw [List.pairwise_map]
      exact this.imp (fun hab e => by simp only [Prod.mk.injEq] at e; omega)
    · intro a ha b hb e
      obtain ⟨c, hc, rfl⟩ := List.mem_map.1 ha
      obtain ⟨q, hq, hb2⟩ := List.mem_flatMap.1 hb
      obtain ⟨d, hd, rfl⟩ := List.mem_map.1 hb2
      have h3 := h1.1 q hq
      simp only [Prod.mk.injEq] at e
      omega
theorem pairs_arcs {R : List RowD} {l : List EdgeD} (h : canonR R) (hr : reprR R (wt l)) (hw : ∀ x ∈ l, x.2.2 ≠ 0) : (pairsU l).length = arcsN R := by
  obtain ⟨h1, h2⟩ := pairsU_all l
  have h3 := pairsR_nodup h
  have hm : ∀ p, p ∈ pairsR R ↔ ∃ x ∈ l, (x.1, x.2.1) = p := fun p => by
    obtain ⟨f, t⟩ := p
    unfold pairsR
    rw [List.mem_flatMap]
    constructor
    · rintro ⟨r, hr1, hp⟩
      obtain ⟨a, ha, he⟩ := List.mem_map.1 hp
      simp only [Prod.mk.injEq] at he
      have h4 := (hr f t a.2).1 ⟨r, hr1, he.1, by rw [← he.2]; exact ha⟩
      obtain ⟨x, hx, hx1, hx2⟩ := wt_mem (l := l) (f := f) (t := t) (by omega)
      exact ⟨x, hx, by rw [hx1, hx2]⟩
    · rintro ⟨x, hx, he⟩
      simp only [Prod.mk.injEq] at he
      have hp := wt_pos hx (hw x hx)
      rw [he.1, he.2] at hp
      obtain ⟨r, hr1, hrf, hrt⟩ := (hr f t _).2 ⟨rfl, hp⟩
      exact ⟨r, hr1, List.mem_map.2 ⟨_, hrt, by simp [hrf]⟩⟩
  rw [← pairsR_len]
  apply Nat.le_antisymm
  · exact nodup_le _ _ h1 (fun p hp => (hm p).2 ((h2 p).1 hp))
  · exact nodup_le _ _ h3 (fun p hp => (h2 p).2 ((hm p).1 hp))
theorem wt_take (l : List EdgeD) (k : Nat) (h : k < l.length) (f t : Nat) : wt (l.take (k + 1)) f t = wt (l.take k) f t + if l[k].1 = f ∧ l[k].2.1 = t then l[k].2.2 else 0 := by
  rw [List.take_succ_eq_append_getElem h, wt_append, wt_one]
theorem outw_take (l : List EdgeD) (k : Nat) (h : k < l.length) (f : Nat) : outw (l.take (k + 1)) f = outw (l.take k) f + if l[k].1 = f then l[k].2.2 else 0 := by
  rw [List.take_succ_eq_append_getElem h, outw_append, outw_one]
theorem outw_take_le (l : List EdgeD) (k : Nat) (f : Nat) : outw (l.take k) f ≤ outw l f := by
  conv => rhs; rw [← List.take_append_drop k l]
  rw [outw_append]; omega
theorem wt_take_le (l : List EdgeD) (k : Nat) (f t : Nat) : wt (l.take k) f t ≤ wt l f t := by
  conv => rhs; rw [← List.take_append_drop k l]
  rw [wt_append]; omega
theorem outw_bound (l : List EdgeD) (hok : ∀ x ∈ l, okE x) (f : Nat) : outw l f ≤ l.length * 4294967296 := by
  induction l with
  | nil => simp [outw]
  | cons x l ih =>
    have h1 := outw_append [x] l f
    rw [outw_one] at h1
    simp only [List.singleton_append] at h1
    have h2 := ih (fun y hy => hok y (by simp [hy]))
    have h3 := (hok x (by simp)).2.2
    rw [h1, List.length_cons]
    split <;> omega
end Go.Proofs.Ytafbjkbdfdeacaa
