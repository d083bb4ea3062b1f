/- A walk goes along arcs. No program in sight. -/
import Derived.Test.YtcklfffeimnfeaaGreatBx22
namespace Go.Proofs.YtcklfffeimnfeaaGreat
set_option linter.unusedSimpArgs false
set_option linter.unusedVariables false
set_option maxRecDepth 100000

theorem arcs_edge {l : List EdgeD} {R : List RowD} (hok : ∀ x ∈ l, okE x) (h : ofM l = (R, 0)) {a : Nat} {x : ArcD} (hx : x ∈ arcs15M R a) : ∃ e ∈ l, e.1 = a ∧ e.2.1 = x.1 := by
  rcases ofM_cases l hok with ⟨_, h2⟩ | ⟨_, _, h2⟩ | ⟨_, _, R', h2, _, h4, _⟩
  · rw [h] at h2; cases h2
  · rw [h] at h2; cases h2
  · rw [h] at h2
    obtain ⟨rfl, _⟩ := Prod.mk.inj h2
    rcases arcs15_mem (R := R) (v := a) with e | ⟨r, hr, hra, e⟩
    · rw [e] at hx; cases hx
    · rw [e] at hx
      have h5 := (h4 a x.1 x.2).1 ⟨r, hr, hra, hx⟩
      exact wt_mem (by rw [← h5.1]; exact h5.2)
/-- how a walk goes on -/
def goesT (R : List RowD) (j : JobD) (p0 a b : Nat) : Prop := (∃ x ∈ arcs15M R a, x.1 = b) ∨ (j.kind = 1 ∧ b = p0)
theorem tries_cand {near : Nat → Nat → Bool} {l : List ArcD} {j : JobD} {id : Nat} {path : List Nat} {v : Nat} : ∀ {n t : Nat}, triesW near l j id path n t = some v → ∃ t', v = candW l j id (path.length - 1) t'
  | 0, t, h => by cases h
  | n + 1, t, h => by
    rw [triesW] at h
    split at h
    · rename_i u hu
      unfold tryW at hu
      split at hu
      · exact ⟨t, by rw [← Option.some.inj h, ← Option.some.inj hu]⟩
      · cases hu
    · exact tries_cand h
theorem next_goes {R : List RowD} (hR : okG R) {j : JobD} {id : Nat} {p : List Nat} {v : Nat} (h : nextW R j id p = some v) : goesT R j p[0]! p[p.length - 1]! v := by
  unfold nextW at h
  split at h
  · cases h
  rename_i hne
  split at h
  · rename_i hb
    unfold backW at hb
    simp only [Bool.and_eq_true, decide_eq_true_eq] at hb
    exact .inr ⟨hb.1, (Option.some.inj h).symm⟩
  · obtain ⟨t, rfl⟩ := tries_cand h
    have hm : mayA (arcs15M R p[p.length - 1]!) = true := by
      rcases arcs15_mem (R := R) (v := p[p.length - 1]!) with e | ⟨r, hr, _, e⟩
      · exact absurd e hne
      · rw [e]; exact (hR.may r hr).1
    have hl := cand_lt hm hne j id (p.length - 1) t
    unfold candW
    rw [getElem!_pos (arcs15M R p[p.length - 1]!) _ hl]
    exact .inl ⟨_, List.getElem_mem _, rfl⟩
def okPath (R : List RowD) (j : JobD) (p : List Nat) : Prop := ∀ i, 0 < i → i < p.length → goesT R j p[0]! p[i - 1]! p[i]!
theorem get_app {p : List Nat} {v i : Nat} (h : i < p.length) : (p ++ [v])[i]! = p[i]! := by
  rw [getElem!_pos (p ++ [v]) i (by rw [List.length_append]; omega), getElem!_pos p i h, List.getElem_append_left h]
theorem get_new (p : List Nat) (v : Nat) : (p ++ [v])[p.length]! = v := by
  rw [getElem!_pos (p ++ [v]) _ (by simp)]
  simp
theorem walk_ok {R : List RowD} (hR : okG R) {j : JobD} {id : Nat} : ∀ (n : Nat) (p : List Nat), 0 < p.length → okPath R j p → okPath R j (walkW R j id n p)
  | 0, p, _, h => h
  | n + 1, p, h0, h => by
    rw [walkW]
    split
    · rename_i v hv
      refine walk_ok hR n _ (by simp) (fun i hi hl => ?_)
      rw [List.length_append, List.length_singleton] at hl
      rw [get_app h0]
      by_cases hlt : i < p.length
      · rw [get_app hlt, get_app (by omega)]
        exact h i hi hlt
      · obtain rfl : i = p.length := by omega
        rw [get_new, get_app (by omega)]
        exact next_goes hR hv
    · exact h
theorem walk_end (R : List RowD) (j : JobD) (id : Nat) : ∀ (n : Nat) (p : List Nat), (walkW R j id n p).length = p.length + n ∨ nextW R j id (walkW R j id n p) = none
  | 0, p => .inl rfl
  | n + 1, p => by
    rw [walkW]
    split
    · rename_i v hv
      rcases walk_end R j id n (p ++ [v]) with h | h
      · left; rw [h, List.length_append, List.length_singleton]; omega
      · exact .inr h
    · rename_i h
      exact .inr h
theorem next_none {R : List RowD} {j : JobD} {id : Nat} {p : List Nat} (ht : 0 < j.tries) (h : nextW R j id p = none) : arcs15M R p[p.length - 1]! = [] ∨ j.kind = 2 := by
  unfold nextW at h
  split at h
  · rename_i e; exact .inl e
  split at h
  · cases h
  right
  obtain ⟨t, ht'⟩ : ∃ t, j.tries = t + 1 := ⟨j.tries - 1, by omega⟩
  rw [ht', triesW] at h
  split at h
  · cases h
  · rename_i hn
    unfold tryW at hn
    split at hn
    · cases hn
    · rename_i hk
      unfold takesW at hk
      split at hk
      · exact absurd rfl hk
      · rename_i hk2
        exact Decidable.of_not_not (fun e => hk2 (.inl e))
def alongL (l : List EdgeD) (a b k : Nat) : Bool := (l.take k).any (fun e => e.1 == a && e.2.1 == b)
theorem alongL_succ {l : List EdgeD} {a b k : Nat} (h : k < l.length) : alongL l a b (k + 1) = (alongL l a b k || (l[k].1 == a && l[k].2.1 == b)) := by
  unfold alongL
  rw [List.take_succ_eq_append_getElem h, List.any_append]
  simp
theorem alongL_all {l : List EdgeD} {a b : Nat} (h : ∃ e ∈ l, e.1 = a ∧ e.2.1 = b) : alongL l a b l.length = true := by
  obtain ⟨e, he, h1, h2⟩ := h
  unfold alongL
  rw [List.take_length, List.any_eq_true]
  exact ⟨e, he, by simp [h1, h2]⟩
/-- what the law asks of a walk -/
theorem path_arcs {R : List RowD} (hR : okG R) {j : JobD} {id : Nat} (hs : srcH j id = true) :
    0 < (pathW R j id).length ∧ (pathW R j id)[0]! = (newJ j id).at_ ∧ (pathW R j id).length ≤ j.length + 1 ∧ okPath R j (pathW R j id) ∧
      ((pathW R j id).length = j.length + 1 ∨ arcs15M R (pathW R j id)[(pathW R j id).length - 1]! = [] ∨ j.kind = 2) := by
  have hm := (srcH_walks (of_decide_eq_true hs)).1
  have ht := (mayJ_small hm).2.2.1
  have e : pathW R j id = walkW R j id j.length [(newJ j id).at_] := by unfold pathW; rw [hs, if_pos rfl]
  rw [e]
  obtain ⟨⟨Z, hZ⟩, h2⟩ := walk_pre R j id j.length [(newJ j id).at_]
  have hl : 0 < (walkW R j id j.length [(newJ j id).at_]).length := by rw [← hZ]; simp
  refine ⟨hl, ?_, by rw [List.length_singleton] at h2; omega, walk_ok hR _ _ (by simp) (fun i hi hl => by simp at hl; omega), ?_⟩
  · rw [← hZ]; rfl
  · rcases walk_end R j id j.length [(newJ j id).at_] with h | h
    · left; rw [h, List.length_singleton]; omega
    · exact .inr (next_none (by omega) h)
end Go.Proofs.YtcklfffeimnfeaaGreat
