/- What lines' paths are. No program in sight. -/
import Derived.Test.YtbleacpdobjdaaaCorpNums
namespace Go.Proofs.Ytbleacpdobjdaaa
set_option linter.unusedSimpArgs false
set_option linter.unusedVariables false

/-- is the number not above the last path's? -/
def notAbove (out : List PathD) (n : Nat) : Bool := match out.getLast? with
  | none => false
  | some q => decide (n ≤ q.1)
def lineErr (out : List PathD) (l : List UInt8) : Nat :=
  if (words l).length < 2 then 12 else if (nums (words l)).2 ≠ 0 then (nums (words l)).2 else if notAbove out ((nums (words l)).1.headD 0) = true then 13 else 0
def pathOf (l : List UInt8) : PathD := ((nums (words l)).1.headD 0, (nums (words l)).1.tail)
def readGo : List PathD → Nat → List (List UInt8) → List PathD × Nat × Nat
  | out, _, [] => (out, 0, 0)
  | out, k, l :: ls => if lineErr out l ≠ 0 then ([], k + 1, lineErr out l) else readGo (out ++ [pathOf l]) (k + 1) ls
def readL (ls : List (List UInt8)) : List PathD × Nat × Nat := readGo [] 0 ls
theorem readGo_bad {out : List PathD} {k : Nat} {l : List UInt8} {ls : List (List UInt8)} (h : lineErr out l ≠ 0) : readGo out k (l :: ls) = ([], k + 1, lineErr out l) := by simp [readGo, h]
theorem readGo_ok {out : List PathD} {k : Nat} {l : List UInt8} {ls : List (List UInt8)} (h : lineErr out l = 0) : readGo out k (l :: ls) = readGo (out ++ [pathOf l]) (k + 1) ls := by simp [readGo, h]

theorem numsGo_len : ∀ (ws : List (List UInt8)) (acc : List Nat), (numsGo acc ws).2 = 0 → (numsGo acc ws).1.length = acc.length + ws.length ∧ ((∀ v ∈ acc, v < 4294967296) → ∀ v ∈ (numsGo acc ws).1, v < 4294967296)
  | [], acc, _ => ⟨by simp [numsGo], fun h => by simpa [numsGo] using h⟩
  | x :: xs, acc, h => by
    by_cases he : (num x 4294967295).2 = 0
    · rw [numsGo_ok he] at h ⊢
      obtain ⟨h1, h2⟩ := numsGo_len xs _ h
      refine ⟨by rw [h1]; simp; omega, fun hv => h2 (fun v hm => ?_)⟩
      rcases List.mem_append.1 hm with h3 | h3
      · exact hv v h3
      · rw [List.mem_singleton.1 h3]; have := (num_le x 4294967295).1; omega
    · rw [numsGo_bad he] at h
      exact absurd h he
theorem numsGo_err : ∀ (ws : List (List UInt8)) (acc : List Nat), (numsGo acc ws).2 = 0 ∨ ((numsGo acc ws).1 = [] ∧ ((numsGo acc ws).2 = 3 ∨ (numsGo acc ws).2 = 9))
  | [], acc => .inl rfl
  | x :: xs, acc => by
    by_cases he : (num x 4294967295).2 = 0
    · rw [numsGo_ok he]; exact numsGo_err xs _
    · rw [numsGo_bad he]
      rcases (num_le x 4294967295).2 with h | h
      · exact absurd h he
      · exact .inr ⟨rfl, h⟩
theorem nums_ok {ws : List (List UInt8)} (h : (nums ws).2 = 0) : (nums ws).1.length = ws.length ∧ ∀ v ∈ (nums ws).1, v < 4294967296 := by
  obtain ⟨h1, h2⟩ := numsGo_len ws [] h
  exact ⟨by unfold nums; rw [h1]; simp, h2 (fun v hv => by simp at hv)⟩
/-- a good line's path -/
theorem line_ok {out : List PathD} {l : List UInt8} (h : lineErr out l = 0) : 2 ≤ (words l).length ∧ (nums (words l)).2 = 0 ∧ ∃ v vs, (nums (words l)).1 = v :: vs ∧ vs ≠ [] ∧ pathOf l = (v, vs) ∧ notAbove out v = false ∧ (∀ u ∈ v :: vs, u < 4294967296) ∧ vs.length + 1 = (words l).length := by
  unfold lineErr at h
  split at h
  · omega
  · rename_i h2
    split at h
    · rename_i h3; exact absurd h h3
    · rename_i h3
      have h3' : (nums (words l)).2 = 0 := by omega
      split at h
      · omega
      · rename_i h4
        obtain ⟨h5, h6⟩ := nums_ok h3'
        refine ⟨by omega, h3', ?_⟩
        match hn : (nums (words l)).1, h5, h6 with
        | [], h5, _ => simp at h5; omega
        | v :: vs, h5, h6 =>
          rw [hn] at h4
          refine ⟨v, vs, rfl, fun e => ?_, by simp [pathOf, hn], by simpa using h4, h6, by simpa using h5⟩
          subst e; simp at h5; omega
theorem wordsGo_mem : ∀ (l p : List UInt8), ∀ x ∈ wordsGo p l, x.length ≤ p.length + l.length
  | [], p, x, hx => by
    unfold wordsGo at hx
    split at hx <;> simp_all
  | c :: l, p, x, hx => by
    unfold wordsGo at hx
    split at hx
    · split at hx
      · have := wordsGo_mem l _ x hx; simp at this ⊢; omega
      · rcases List.mem_cons.1 hx with rfl | hx
        · simp; try omega
        · have := wordsGo_mem l _ x hx; simp at this ⊢; omega
    · have := wordsGo_mem l _ x hx; simp at this ⊢; omega
theorem words_mem (l : List UInt8) : ∀ x ∈ words l, x.length ≤ l.length := fun x hx => by simpa using wordsGo_mem l [] x hx
theorem linesGo_mem : ∀ (l p : List UInt8), ∀ x ∈ linesGo p l, x.length ≤ p.length + l.length
  | [], p, x, hx => by
    unfold linesGo at hx
    split at hx <;> simp_all
  | c :: l, p, x, hx => by
    unfold linesGo at hx
    split at hx
    · rcases List.mem_cons.1 hx with rfl | hx
      · simp; try omega
      · have := linesGo_mem l _ x hx; simp at this ⊢; omega
    · have := linesGo_mem l _ x hx; simp at this ⊢; omega
theorem lines_mem (l : List UInt8) : ∀ x ∈ lines l, x.length ≤ l.length := fun x hx => by simpa using linesGo_mem l [] x hx
end Go.Proofs.Ytbleacpdobjdaaa
