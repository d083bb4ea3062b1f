/- Edges out of vertices to which a walk doesn't come change nothing of it. No program in sight. -/
import Derived.Test.YtcklfffeimnfeaaGreatBx22
namespace Go.Proofs.YtcklfffeimnfeaaGreat
set_option linter.unusedSimpArgs false
set_option linter.unusedVariables false
set_option maxRecDepth 100000

theorem arcs_mem {R : List RowD} {W : Nat → Nat → Nat} (hc : canonR R) (hr : reprR R W) (v t w : Nat) : (t, w) ∈ arcs15M R v ↔ (w = W v t ∧ 0 < w) := by
  rw [← hr v t w]
  constructor
  · intro h
    rcases arcs15_mem (R := R) (v := v) with e | ⟨r, hm, hv, e⟩
    · rw [e] at h; cases h
    · exact ⟨r, hm, hv, by rw [← e]; exact h⟩
  · rintro ⟨r, hm, hv, h⟩
    unfold arcs15M
    have hs : (R.find? (fun r => r.1 == v)).isSome = true := by
      rw [List.find?_isSome]
      exact ⟨r, hm, by simp [hv]⟩
    obtain ⟨r', hr'⟩ := Option.isSome_iff_exists.1 hs
    have h1 := List.mem_of_find?_eq_some hr'
    have h2 : r'.1 = v := by simpa using List.find?_some hr'
    have : r' = r := rise_one (k := fun r : RowD => r.1) hc.1 h1 hm (by show r'.1 = r.1; rw [h2, hv])
    rw [hr', this]
    exact h
theorem arcs_rise {R : List RowD} (hc : canonR R) (v : Nat) : (arcs15M R v).Pairwise (fun a b => a.1 < b.1) := by
  rcases arcs15_mem (R := R) (v := v) with e | ⟨r, hm, _, e⟩
  · rw [e]; exact .nil
  · rw [e]; exact (hc.2 r hm).2.1
theorem arcs_same {l m : List EdgeD} {R S : List RowD} (hl : ∀ x ∈ l, okE x) (hm : ∀ x ∈ m, okE x) (h1 : ofM l = (R, 0)) (h2 : ofM (l ++ m) = (S, 0)) {v : Nat} (hv : ∀ e ∈ m, e.1 ≠ v) : arcs15M S v = arcs15M R v := by
  have get : ∀ {l : List EdgeD} {R : List RowD}, (∀ x ∈ l, okE x) → ofM l = (R, 0) → canonR R ∧ reprR R (wt l) := fun {l R} hl h => by
    rcases ofM_cases l hl with ⟨_, h2⟩ | ⟨_, _, h2⟩ | ⟨_, _, R', h2, h3, h4, _⟩
    · rw [h] at h2; cases h2
    · rw [h] at h2; cases h2
    · rw [h] at h2
      obtain ⟨rfl, _⟩ := Prod.mk.inj h2
      exact ⟨h3, h4⟩
  obtain ⟨a1, a2⟩ := get hl h1
  obtain ⟨b1, b2⟩ := get (l := l ++ m) (fun x hx => (List.mem_append.1 hx).elim (hl x) (hm x)) h2
  refine rise_ext (fun a : ArcD => a.1) _ _ (arcs_rise b1 v) (arcs_rise a1 v) (fun x => ?_)
  rw [arcs_mem b1 b2, arcs_mem a1 a2, wt_append]
  have : wt m v x.1 = 0 := by
    rcases Nat.eq_zero_or_pos (wt m v x.1) with h | h
    · exact h
    · obtain ⟨e, he, h3, _⟩ := wt_mem h
      exact absurd h3 (hv e he)
  rw [this, Nat.add_zero]
theorem next_on {R S : List RowD} {j : JobD} {id : Nat} {p : List Nat} (h0 : 0 < p.length) (h : ∀ v ∈ p, arcs15M S v = arcs15M R v) : nextW S j id p = nextW R j id p := by
  have ha : arcs15M S p[p.length - 1]! = arcs15M R p[p.length - 1]! := h _ (by rw [getElem!_pos p _ (by omega)]; exact List.getElem_mem _)
  have ht : ∀ tv t, takesW (near15M S) j id p tv t = takesW (near15M R) j id p tv t := fun tv t => by
    unfold takesW
    split
    · rfl
    · rename_i hn
      have h2 : p.length ≠ 1 := fun e => hn (.inr e)
      have hn2 : near15M S p[p.length - 2]! tv = near15M R p[p.length - 2]! tv := by
        unfold near15M
        rw [h _ (by rw [getElem!_pos p _ (by omega)]; exact List.getElem_mem _)]
      rw [hn2]
  have hs : ∀ l n t, triesW (near15M S) l j id p n t = triesW (near15M R) l j id p n t := fun l n => by
    induction n with
    | zero => intro t; rfl
    | succ n ih =>
      intro t
      rw [triesW, triesW, show tryW (near15M S) l j id p t = tryW (near15M R) l j id p t by unfold tryW; rw [ht], ih]
  unfold nextW
  rw [ha, hs]
theorem walk_on {R S : List RowD} {j : JobD} {id : Nat} : ∀ (n : Nat) (p : List Nat), 0 < p.length → (∀ v ∈ walkW R j id n p, arcs15M S v = arcs15M R v) → walkW S j id n p = walkW R j id n p
  | 0, p, _, _ => rfl
  | n + 1, p, h0, h => by
    have hp := (walk_pre R j id (n + 1) p).1
    have hn := next_on (j := j) (id := id) h0 (fun v hv => h v (hp.subset hv))
    rw [walkW] at h ⊢
    rw [walkW, hn]
    split
    · rename_i v hv
      rw [hv] at h
      exact walk_on n (p ++ [v]) (by simp) h
    · rfl
/-- what the law asks -/
theorem path_elsewhere {l m : List EdgeD} {R S : List RowD} (hl : ∀ x ∈ l, okE x) (hm : ∀ x ∈ m, okE x) (h1 : ofM l = (R, 0)) {j : JobD} {id : Nat}
    (h2 : ofM (l ++ m.filter (fun e => !((pathW R j id).any (fun v => v == e.1)))) = (S, 0)) : pathW S j id = pathW R j id := by
  unfold pathW at h2 ⊢
  split
  · rename_i hs
    rw [if_pos hs] at h2
    refine walk_on _ _ (by simp) (fun v hv => arcs_same hl (fun x hx => hm x (List.mem_filter.1 hx).1) h1 h2 (fun e he hev => ?_))
    have h3 := (List.mem_filter.1 he).2
    simp only [Bool.not_eq_true', List.any_eq_false, beq_iff_eq] at h3
    exact h3 v hv hev.symm
  · rfl
end Go.Proofs.YtcklfffeimnfeaaGreat
