/- From a new walker on, moves step along its walk. No program in sight. -/
import Derived.Test.YtcklfffeimnfeaaGreatBx22
namespace Go.Proofs.YtcklfffeimnfeaaGreat
set_option linter.unusedSimpArgs false
set_option linter.unusedVariables false
set_option maxRecDepth 100000

/-- how far a walker's moves have come along its walk -/
structure MovI (R : List RowD) (j : JobD) (id : Nat) (p : List Nat) (x : WkD) : Prop where
  may : mayW j x = true
  xid : x.id = id
  len : p.length = x.step + 1
  last : x.at_ = p[x.step]!
  prev : j.kind = 2 → 0 < x.step → x.prev = p[x.step - 1]!
  rest : walkW R j id (j.length - x.step) p = pathW R j id
  tries : (x.try_ = 0 ∧ x.state = 0) ∨ (x.step < j.length ∧ triesW (near15M R) (arcs15M R x.at_) j id p (j.tries - x.try_) x.try_ = nextW R j id p)
  asks : x.state = 1 → x.next = candW (arcs15M R x.at_) j id x.step x.try_
  head : p[0]! = j.src[srcN j id]!
/-- moves that are left at most -/
def muW (j : JobD) (x : WkD) : Nat := 2 * j.tries * (j.length - x.step) - (2 * x.try_ + x.state)
def movA (R : List RowD) (x : WkD) : List ArcD := arcs15M R (if x.state = 1 then x.prev else x.at_)
def MovOut (R : List RowD) (j : JobD) (id : Nat) (p : List Nat) (x : WkD) (r : WkD × Nat) : Prop :=
  (r.2 = 0 ∧ p = pathW R j id) ∨ (r.2 = 1 ∧ MovI R j id p r.1 ∧ muW j r.1 < muW j x) ∨ (r.2 = 2 ∧ MovI R j id (p ++ [r.1.at_]) r.1 ∧ muW j r.1 < muW j x)
theorem arcs_mayA {R : List RowD} (hR : okG R) (v : Nat) : mayA (arcs15M R v) = true := by
  rcases arcs15_mem (R := R) (v := v) with e | ⟨r, hm, _, e⟩
  · rw [e]; decide
  · rw [e]; exact (hR.may r hm).1
theorem mu_arith {T L s t st : Nat} (ht : t < T) (hst : st ≤ 1) (hs : s < L) : 2 * t + st < 2 * T * (L - s) ∧ 2 * T * (L - (s + 1)) + (2 * t + st) < 2 * T * (L - s) := by
  obtain ⟨d, rfl⟩ : ∃ d, L = s + 1 + d := ⟨L - s - 1, by omega⟩
  rw [show s + 1 + d - s = d + 1 by omega, show s + 1 + d - (s + 1) = d by omega, Nat.mul_add, Nat.mul_one]
  have : 0 ≤ 2 * T * d := Nat.zero_le _
  omega
section
variable {R : List RowD} {j : JobD} {id : Nat} {p : List Nat} {x : WkD}
theorem MovI.st (h : MovI R j id p x) : x.state ≤ 1 := by
  rcases (mayW_dest h.may).state with e | e <;> omega
theorem mov_steps (h : MovI R j id p x) (hl : x.step < j.length) {tv : Nat} (hn : nextW R j id p = some tv) : MovOut R j id p x (stepsM j x tv) := by
  have d := mayW_dest h.may
  have hm := mayJ_small (mayW_job h.may)
  have e : (x.step + 1) % 4294967296 = x.step + 1 := Nat.mod_eq_of_lt (by omega)
  have ok := steps_ok h.may hl tv
  have hmay : mayW j (stepsM j x tv).1 = true := by
    rcases ok with ⟨h2, _⟩ | ⟨h2, _⟩ | ⟨_, h2, _⟩
    · exact absurd h2 (by simp [stepsM])
    · exact absurd h2 (by simp [stepsM])
    · exact h2
  refine .inr (.inr ⟨rfl, ⟨hmay, h.xid, ?_, ?_, ?_, ?_, .inl ⟨rfl, rfl⟩, ?_, ?_⟩, ?_⟩)
  · show (p ++ [tv]).length = (x.step + 1) % 4294967296 + 1
    rw [e, List.length_append, h.len]; rfl
  · show tv = (p ++ [tv])[(x.step + 1) % 4294967296]!
    rw [e, getElem!_pos _ _ (by simp [h.len]), List.getElem_append_right (by rw [h.len]; omega)]
    simp [h.len]
  · intro hk _
    show (if j.kind = 2 then x.at_ else 0) = (p ++ [tv])[(x.step + 1) % 4294967296 - 1]!
    rw [if_pos hk, e, h.last, show x.step + 1 - 1 = x.step by omega, getElem!_pos p _ (by rw [h.len]; omega), getElem!_pos _ _ (by simp [h.len]; omega), List.getElem_append_left (by rw [h.len]; omega)]
  · show walkW R j id (j.length - (x.step + 1) % 4294967296) (p ++ [tv]) = _
    rw [e, ← h.rest, show j.length - x.step = j.length - (x.step + 1) + 1 by omega, walkW, hn]
  · intro h0; exact absurd h0 (by simp [stepsM])
  · show (p ++ [tv])[0]! = _
    rw [← h.head, getElem!_pos p _ (by rw [h.len]; omega), getElem!_pos _ _ (by simp), List.getElem_append_left (by rw [h.len]; omega)]
  · have := mu_arith d.try_ h.st hl
    unfold muW stepsM
    simp only [e]
    omega
theorem mov_lost (h : MovI R j id p x) (hl : x.step < j.length) (hk : j.kind = 2) (h0 : 0 < x.step) (ht : triesW (near15M R) (arcs15M R x.at_) j id p (j.tries - x.try_) x.try_ = nextW R j id p)
    (hn : tryW (near15M R) (arcs15M R x.at_) j id p x.try_ = none) : MovOut R j id p x (lostM j x) := by
  have d := mayW_dest h.may
  have hlt := d.try_
  have ok := lost_ok h.may hk h0
  rw [show j.tries - x.try_ = j.tries - (x.try_ + 1) + 1 by omega, tries_none hn] at ht
  by_cases e : x.try_ + 1 = j.tries
  · refine .inl ⟨by unfold lostM; rw [if_pos e], ?_⟩
    rw [show j.tries - (x.try_ + 1) = 0 by omega, triesW] at ht
    rw [← h.rest, show j.length - x.step = j.length - (x.step + 1) + 1 by omega, walkW, ← ht]
  · have e1 : lostM j x = (⟨x.id, x.step, x.at_, x.prev, 0, x.try_ + 1, 0⟩, 1) := by unfold lostM; rw [if_neg e]
    rw [e1] at ok ⊢
    have hmay : mayW j ⟨x.id, x.step, x.at_, x.prev, 0, x.try_ + 1, 0⟩ = true := by
      rcases ok with ⟨h2, _⟩ | ⟨_, h2, _⟩ | ⟨h2, _⟩
      · cases h2
      · exact h2
      · cases h2
    refine .inr (.inl ⟨rfl, ⟨hmay, h.xid, h.len, h.last, h.prev, h.rest, .inr ⟨hl, ht⟩, (fun a => by cases a), h.head⟩, ?_⟩)
    have := mu_arith hlt h.st hl
    have := h.st
    unfold muW
    simp only
    omega
theorem mov_takes (h : MovI R j id p x) (hk : j.kind = 2) (h0 : 0 < x.step) (near : Nat → Nat → Bool) (tv : Nat) : takesW near j id p tv x.try_ = acceptsM j x tv (near x.prev tv) := by
  unfold takesW acceptsM
  rw [if_neg (by rw [h.len]; omega), h.len, show x.step + 1 - 2 = x.step - 1 by omega, show x.step + 1 - 1 = x.step by omega, ← h.prev hk h0]
  have : drawW j id x.step (2 * x.try_) (j.p * j.q) = drwN j x (2 * x.try_) (j.p * j.q) := by
    unfold drawW drwN
    rw [h.xid]; rfl
  rw [this]
theorem mov_try {near : Nat → Nat → Bool} {l : List ArcD} {t : Nat} (hlen : p.length = x.step + 1) : tryW near l j id p t = if takesW near j id p (candW l j id x.step t) t then some (candW l j id x.step t) else none := by
  unfold tryW
  rw [hlen, Nat.add_sub_cancel]
theorem mov_move (hR : okG R) (h : MovI R j id p x) : MovOut R j id p x (moveM j x (movA R x) (buildT ((movA R x).map (·.2)))) := by
  have d := mayW_dest h.may
  have hA : mayA (movA R x) = true := arcs_mayA hR _
  unfold moveM
  rw [h.may, hA, if_neg (by simp)]
  by_cases hs : x.state = 1
  · rw [if_pos hs]
    rcases d.state with ⟨a, _⟩ | ⟨_, hk, hl, h0⟩
    · omega
    have hmv : movA R x = arcs15M R x.prev := by unfold movA; rw [if_pos hs]
    have ht : triesW (near15M R) (arcs15M R x.at_) j id p (j.tries - x.try_) x.try_ = nextW R j id p := by
      rcases h.tries with ⟨_, b⟩ | ⟨_, b⟩
      · omega
      · exact b
    have hlt := d.try_
    have hty : tryW (near15M R) (arcs15M R x.at_) j id p x.try_ = if acceptsM j x x.next (nearM (movA R x) x.next) then some x.next else none := by
      rw [mov_try h.len, ← h.asks hs, mov_takes h hk h0, hmv]
      rfl
    cases hac : acceptsM j x x.next (nearM (movA R x) x.next) with
    | true =>
      rw [hac] at hty
      rw [if_pos rfl]
      refine mov_steps h hl ?_
      rw [← ht, show j.tries - x.try_ = j.tries - (x.try_ + 1) + 1 by omega]
      exact tries_some hty
    | false =>
      rw [hac] at hty
      rw [if_neg (by simp)]
      exact mov_lost h hl hk h0 ht hty
  · rw [if_neg hs]
    have hs0 : x.state = 0 ∧ x.next = 0 := by
      rcases d.state with a | a
      · exact a
      · exact absurd a.1 hs
    have hmv : movA R x = arcs15M R x.at_ := by unfold movA; rw [if_neg hs]
    rw [hmv] at hA ⊢
    have hlast : p[p.length - 1]! = x.at_ := by rw [h.len, Nat.add_sub_cancel, ← h.last]
    by_cases hz : x.step = j.length ∨ arcs15M R x.at_ = []
    · rw [if_pos hz]
      refine .inl ⟨rfl, ?_⟩
      rw [← h.rest]
      by_cases hz2 : x.step = j.length
      · rw [hz2, Nat.sub_self, walkW]
      · have hl : x.step < j.length := by have := d.step; omega
        rw [show j.length - x.step = j.length - (x.step + 1) + 1 by omega, walkW]
        have : nextW R j id p = none := by unfold nextW; rw [hlast, if_pos (hz.resolve_left hz2)]
        rw [this]
    · rw [if_neg hz]
      have hl : x.step < j.length := by
        have := d.step
        have : x.step ≠ j.length := fun e => hz (.inl e)
        omega
      have hne : arcs15M R x.at_ ≠ [] := fun e => hz (.inr e)
      have hbk : backW j id (p.length - 1) = restartsM j x := by
        rw [h.len, Nat.add_sub_cancel]
        unfold backW restartsM drawW drwN
        rw [h.xid]; rfl
      cases hr : restartsM j x with
      | true =>
        rw [if_pos rfl, h.xid, ← h.head]
        refine mov_steps h hl ?_
        unfold nextW
        rw [hlast, if_neg hne, hbk, hr, if_pos rfl]
      | false =>
        rw [if_neg (by simp)]
        have hnx : nextW R j id p = triesW (near15M R) (arcs15M R x.at_) j id p j.tries 0 := by
          unfold nextW
          rw [hlast, if_neg hne, hbk, hr, if_neg (by simp)]
        have ht : triesW (near15M R) (arcs15M R x.at_) j id p (j.tries - x.try_) x.try_ = nextW R j id p := by
          rcases h.tries with ⟨a, _⟩ | ⟨_, b⟩
          · rw [a, Nat.sub_zero, hnx]
          · exact b
        obtain ⟨htot, hsum, hlen⟩ := totalM_pos hA hne
        have hX : drwN j x (2 * x.try_ + 1) (totalM (arcs15M R x.at_)) < totalM (arcs15M R x.at_) := drwN_lt j x _ _ (by rw [htot]; exact Nat.mul_pos hsum hlen)
        rw [alias_to hA (buildT_right _) hX]
        have hc : (arcs15M R x.at_)[toT (buildT ((arcs15M R x.at_).map (·.2))) (sumA (arcs15M R x.at_)) (drwN j x (2 * x.try_ + 1) (totalM (arcs15M R x.at_)))]!.1 = candW (arcs15M R x.at_) j id x.step x.try_ := by
          unfold candW drawW drwN
          rw [h.xid]; rfl
        simp only [hc]
        have hlt := d.try_
        have hty := mov_try (near := near15M R) (l := arcs15M R x.at_) (j := j) (id := id) (t := x.try_) h.len
        generalize candW (arcs15M R x.at_) j id x.step x.try_ = tv at hty hc
        have hyes : takesW (near15M R) j id p tv x.try_ = true → MovOut R j id p x (stepsM j x tv) := fun hy => by
          rw [hy, if_pos rfl] at hty
          refine mov_steps h hl ?_
          rw [← ht, show j.tries - x.try_ = j.tries - (x.try_ + 1) + 1 by omega]
          exact tries_some hty
        unfold takeM
        by_cases hk : j.kind = 2 ∧ 0 < x.step
        · rw [if_pos hk]
          have htk := mov_takes h hk.1 hk.2 (near15M R) tv
          by_cases he : acceptsM j x tv true = acceptsM j x tv false
          · rw [if_pos he]
            have hb : takesW (near15M R) j id p tv x.try_ = acceptsM j x tv true := by
              rw [htk]
              cases near15M R x.prev tv
              · exact he.symm
              · rfl
            cases hac : acceptsM j x tv true with
            | true => rw [if_pos rfl]; exact hyes (by rw [hb, hac])
            | false =>
              rw [if_neg (by simp)]
              rw [hb, hac] at hty
              exact mov_lost h hl hk.1 hk.2 ht hty
          · rw [if_neg he]
            have hmay : mayW j { x with next := tv, state := 1 } = true := mayW_mk d.src d.step d.try_ hk.2 (.inl hk.1) (.inr ⟨rfl, hk.1, hl⟩)
            refine .inr (.inl ⟨rfl, ⟨hmay, h.xid, h.len, h.last, h.prev, h.rest, .inr ⟨hl, ht⟩, fun _ => ?_, h.head⟩, ?_⟩)
            · show tv = _
              rw [← hc]
              unfold candW drawW drwN
              rw [h.xid]; rfl
            · have := mu_arith hlt h.st hl
              unfold muW
              simp only
              omega
        · rw [if_neg hk]
          refine hyes ?_
          unfold takesW
          rw [if_pos (by rw [h.len]; omega)]
theorem mov_new {id : Nat} (hs : srcH j id = true) : MovI R j id [(newJ j id).at_] (newJ j id) ∧ muW j (newJ j id) = 2 * j.tries * j.length := by
  have hid := of_decide_eq_true hs
  have hw := srcH_walks hid
  have e : newJ j id = ⟨id, 0, j.src[srcN j id]!, 0, 0, 0, 0⟩ := by unfold newJ; rw [if_pos hid]
  have ht := (mayJ_small hw.1).2.2.1
  rw [e]
  refine ⟨⟨?_, rfl, rfl, rfl, (fun _ h => by cases h), ?_, .inl ⟨rfl, rfl⟩, (fun h => by cases h), rfl⟩, rfl⟩
  · unfold mayW
    rw [if_neg (by rw [hs]; simp; omega), if_pos rfl, e]
    exact decide_eq_true rfl
  · unfold pathW
    rw [hs, if_pos rfl, e]; rfl
end
theorem mov_len {R : List RowD} {j : JobD} {id : Nat} {p : List Nat} {x : WkD} (h : MovI R j id p x) : p.length ≤ j.length + 1 := by
  have := (mayW_dest h.may).step
  rw [h.len]; omega
theorem mov_small {j : JobD} (ht : j.tries ≤ 20) (hl : j.length ≤ 20) : 2 * j.tries * j.length ≤ 800 := by
  have h1 : 2 * j.tries * j.length ≤ 40 * 20 := Nat.mul_le_mul (by omega) hl
  omega
end Go.Proofs.YtcklfffeimnfeaaGreat
