/- Paths out of records: the program's way (told one by one), the reference's (a list that grows). No program in sight. -/
import Derived.Test.YtbleacpdobjdaaaKeyPlain
namespace Go.Proofs.Ytbleacpdobjdaaa
set_option linter.unusedSimpArgs false
set_option linter.unusedVariables false

abbrev PathD := Nat × List Nat
/-- the path that isn't told yet, and what is told of the records -/
def flushP : Option PathD → List PathD
  | none => []
  | some p => [p]
def goesOn (st : Option PathD) (id step : Nat) : Bool := match st with
  | none => false
  | some p => id == p.1 && step == p.2.length
def startsNew (st : Option PathD) (id step : Nat) : Bool := step == 0 && (match st with
  | none => true
  | some p => decide (p.1 < id))
def addTo (st : Option PathD) (id v : Nat) : Option PathD := match st with
  | none => some (id, [v])
  | some p => some (p.1, p.2 ++ [v])
/-- what is told: paths, at last an error's number (0: none) -/
def told : Option PathD → List (List UInt8) → List PathD × Nat
  | st, [] => (flushP st, 0)
  | st, r :: rs =>
    if r.length ≠ 12 then ([], 3) else
    if goesOn st (keyOf r).1 (keyOf r).2.1 then told (addTo st (keyOf r).1 (keyOf r).2.2) rs else
    if startsNew st (keyOf r).1 (keyOf r).2.1 then (flushP st ++ (told (some ((keyOf r).1, [(keyOf r).2.2])) rs).1, (told (some ((keyOf r).1, [(keyOf r).2.2])) rs).2) else ([], 13)
/-- the reference's: 'done' ahead of the last one -/
def pathsGo : List PathD → Option PathD → List (List UInt8) → List PathD × Nat
  | done, st, [] => (done ++ flushP st, 0)
  | done, st, r :: rs =>
    if r.length ≠ 12 then ([], 3) else
    if goesOn st (keyOf r).1 (keyOf r).2.1 then pathsGo done (addTo st (keyOf r).1 (keyOf r).2.2) rs else
    if startsNew st (keyOf r).1 (keyOf r).2.1 then pathsGo (done ++ flushP st) (some ((keyOf r).1, [(keyOf r).2.2])) rs else ([], 13)
def paths (recs : List (List UInt8)) : List PathD × Nat := pathsGo [] none recs
theorem pathsGo_told : ∀ (recs : List (List UInt8)) (done : List PathD) (st : Option PathD),
    pathsGo done st recs = if (told st recs).2 = 0 then (done ++ (told st recs).1, 0) else ([], (told st recs).2)
  | [], done, st => by simp [pathsGo, told]
  | r :: rs, done, st => by
    unfold pathsGo told
    split
    · simp
    · split
      · exact pathsGo_told rs done _
      · split
        · rw [pathsGo_told rs]
          simp
        · simp
theorem paths_told (recs : List (List UInt8)) : paths recs = if (told none recs).2 = 0 then ((told none recs).1, 0) else ([], (told none recs).2) := by
  unfold paths
  rw [pathsGo_told]
  simp
theorem told_err : ∀ (recs : List (List UInt8)) (st : Option PathD), (told st recs).2 = 0 ∨ (told st recs).2 = 3 ∨ (told st recs).2 = 13
  | [], st => by simp [told]
  | r :: rs, st => by
    unfold told
    split
    · simp
    · split
      · exact told_err rs _
      · split
        · exact told_err rs _
        · simp
/-- all that is told has a number, and vertices, that are uint32s -/
def okPath (p : PathD) : Prop := p.1 < 4294967296 ∧ ∀ v ∈ p.2, v < 4294967296
theorem told_ok : ∀ (recs : List (List UInt8)) (st : Option PathD), (∀ p, st = some p → okPath p) → ∀ p ∈ (told st recs).1, okPath p
  | [], st, h, p, hp => by
    cases st with
    | none => simp [told, flushP] at hp
    | some q => simp [told, flushP] at hp; subst hp; exact h _ rfl
  | r :: rs, st, h, p, hp => by
    unfold told at hp
    split at hp
    · simp at hp
    · rename_i h12
      have hk := (key3_keyOf r (by simpa using h12)).2
      split at hp
      · refine told_ok rs _ ?_ p hp
        intro q hq
        cases st with
        | none => simp only [addTo, Option.some.injEq] at hq; subst hq; exact ⟨hk.1, fun v hv => by rw [List.mem_singleton.1 hv]; exact hk.2.2⟩
        | some s =>
          simp only [addTo, Option.some.injEq] at hq
          subst hq
          refine ⟨(h s rfl).1, fun v hv => ?_⟩
          rcases List.mem_append.1 hv with h1 | h1
          · exact (h s rfl).2 v h1
          · rw [List.mem_singleton.1 h1]; exact hk.2.2
      · split at hp
        · rcases List.mem_append.1 hp with h1 | h1
          · cases st with
            | none => simp [flushP] at h1
            | some q => simp [flushP] at h1; subst h1; exact h _ rfl
          · refine told_ok rs _ ?_ p h1
            intro q hq
            simp only [Option.some.injEq] at hq
            subst hq
            exact ⟨hk.1, fun v hv => by rw [List.mem_singleton.1 hv]; exact hk.2.2⟩
        · simp at hp
/-! ### what the iterator hands out: paths, each with no error, and at last the error -/
def toldE (st : Option PathD) (recs : List (List UInt8)) : List (PathD × Nat) :=
  (told st recs).1.map (fun p => (p, 0)) ++ if (told st recs).2 = 0 then [] else [((0, []), (told st recs).2)]
theorem toldE_nil (st : Option PathD) : toldE st [] = (flushP st).map (fun p => (p, 0)) := by simp [toldE, told]
theorem toldE_bad (st : Option PathD) (r : List UInt8) (rs : List (List UInt8)) (h : r.length ≠ 12) : toldE st (r :: rs) = [((0, []), 3)] := by
  unfold toldE told; rw [if_pos h]; rfl
theorem toldE_goes (st : Option PathD) (r : List UInt8) (rs : List (List UInt8)) (h : r.length = 12) (hg : goesOn st (keyOf r).1 (keyOf r).2.1 = true) : toldE st (r :: rs) = toldE (addTo st (keyOf r).1 (keyOf r).2.2) rs := by
  unfold toldE; conv => lhs; unfold told
  rw [if_neg (by simp [h]), hg]; rfl
theorem toldE_new (st : Option PathD) (r : List UInt8) (rs : List (List UInt8)) (h : r.length = 12) (hg : goesOn st (keyOf r).1 (keyOf r).2.1 = false) (hs : startsNew st (keyOf r).1 (keyOf r).2.1 = true) :
    toldE st (r :: rs) = (flushP st).map (fun p => (p, 0)) ++ toldE (some ((keyOf r).1, [(keyOf r).2.2])) rs := by
  unfold toldE; conv => lhs; unfold told
  rw [if_neg (by simp [h]), hg, hs]; simp
theorem toldE_state (st : Option PathD) (r : List UInt8) (rs : List (List UInt8)) (h : r.length = 12) (hg : goesOn st (keyOf r).1 (keyOf r).2.1 = false) (hs : startsNew st (keyOf r).1 (keyOf r).2.1 = false) : toldE st (r :: rs) = [((0, []), 13)] := by
  unfold toldE told; rw [if_neg (by simp [h]), hg, hs]; rfl

/-! ### 'Told': the last run of records that are paths, less its last path -/
theorem told_prefix : ∀ (recs : List (List UInt8)) (st : Option PathD), (told st recs).2 ≠ 0 → ∃ k, k < recs.length ∧ (∀ m, k < m → m ≤ recs.length → (told st (recs.take m)).2 ≠ 0) ∧
    (told st (recs.take k)).2 = 0 ∧ ((st ≠ none ∨ 0 < k) → ∃ p, (told st (recs.take k)).1 = (told st recs).1 ++ [p]) ∧ (st = none → k = 0 → (told st recs).1 = [])
  | [], st, h => by simp [told] at h
  | r :: rs, st, h => by
    by_cases h12 : r.length ≠ 12
    · refine ⟨0, by simp, ?_, by simp [told], ?_, ?_⟩
      · intro m hm _
        obtain ⟨m, rfl⟩ : ∃ j, m = j + 1 := ⟨m - 1, by omega⟩
        rw [List.take_succ_cons]; unfold told; rw [if_pos h12]; simp
      · rintro (h1 | h1)
        · cases st with
          | none => exact absurd rfl h1
          | some p => exact ⟨p, by unfold told; simp [flushP, h12]⟩
        · omega
      · intro _ _; unfold told; rw [if_pos h12]
    · by_cases hg : goesOn st (keyOf r).1 (keyOf r).2.1 = true
      · have e : ∀ l, told st (r :: l) = told (addTo st (keyOf r).1 (keyOf r).2.2) l := fun l => by
          conv => lhs; unfold told
          rw [if_neg h12, if_pos hg]
        rw [e] at h ⊢
        obtain ⟨k, h1, h2, h3, h4, _⟩ := told_prefix rs _ h
        have hne : addTo st (keyOf r).1 (keyOf r).2.2 ≠ none := by cases st <;> simp [addTo]
        refine ⟨k + 1, by simp; omega, ?_, ?_, ?_, by intros; omega⟩
        · intro m hm hm2
          obtain ⟨m, rfl⟩ : ∃ j, m = j + 1 := ⟨m - 1, by omega⟩
          rw [List.take_succ_cons, e]; exact h2 m (by omega) (by simp at hm2; omega)
        · rw [List.take_succ_cons, e]; exact h3
        · intro _; rw [List.take_succ_cons, e]; exact h4 (.inl hne)
      · by_cases hs : startsNew st (keyOf r).1 (keyOf r).2.1 = true
        · have e : ∀ l, told st (r :: l) = (flushP st ++ (told (some ((keyOf r).1, [(keyOf r).2.2])) l).1, (told (some ((keyOf r).1, [(keyOf r).2.2])) l).2) := fun l => by
            conv => lhs; unfold told
            rw [if_neg h12, if_neg hg, if_pos hs]
          rw [e] at h ⊢
          obtain ⟨k, h1, h2, h3, h4, _⟩ := told_prefix rs _ h
          refine ⟨k + 1, by simp; omega, ?_, ?_, ?_, by intros; omega⟩
          · intro m hm hm2
            obtain ⟨m, rfl⟩ : ∃ j, m = j + 1 := ⟨m - 1, by omega⟩
            rw [List.take_succ_cons, e]; exact h2 m (by omega) (by simp at hm2; omega)
          · rw [List.take_succ_cons, e]; exact h3
          · intro _
            obtain ⟨p, hp⟩ := h4 (.inl (by simp))
            exact ⟨p, by rw [List.take_succ_cons, e, hp, List.append_assoc]⟩
        · refine ⟨0, by simp, ?_, by simp [told], ?_, ?_⟩
          · intro m hm _
            obtain ⟨m, rfl⟩ : ∃ j, m = j + 1 := ⟨m - 1, by omega⟩
            rw [List.take_succ_cons]; unfold told; rw [if_neg h12, if_neg hg, if_neg hs]; simp
          · rintro (h1 | h1)
            · cases st with
              | none => exact absurd rfl h1
              | some p => exact ⟨p, by conv => lhs; simp only [List.take_zero]; unfold told
                                       conv => rhs; unfold told
                                       rw [if_neg h12, if_neg hg, if_neg hs]; rfl⟩
            · omega
          · intro _ _; unfold told; rw [if_neg h12, if_neg hg, if_neg hs]
end Go.Proofs.Ytbleacpdobjdaaa
