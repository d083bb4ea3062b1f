/- What lines' edges are, and edges' lines. No program in sight. -/
import Derived.Test.YtafbjkbdfdeacaaTextPlain
namespace Go.Proofs.Ytafbjkbdfdeacaa
set_option linter.unusedSimpArgs false
set_option linter.unusedVariables false

abbrev EdgeD := Nat × Nat × Nat
/-- a weight's word -/
def weightOf (w : List UInt8) : Nat × Nat := if (num w 2147483647).2 ≠ 0 then (0, (num w 2147483647).2) else if (num w 2147483647).1 = 0 then (0, 9) else ((num w 2147483647).1, 0)
def twoE (a b : List UInt8) (r : Nat × Nat) : EdgeD × Bool × Nat :=
  if (num a 4294967295).2 ≠ 0 then ((0, 0, 0), false, (num a 4294967295).2) else if (num b 4294967295).2 ≠ 0 then ((0, 0, 0), false, (num b 4294967295).2)
  else if r.2 ≠ 0 then ((0, 0, 0), false, r.2) else (((num a 4294967295).1, (num b 4294967295).1, r.1), true, 0)
def oneW : List (List UInt8) → EdgeD × Bool × Nat
  | [] => ((0, 0, 0), false, 0)
  | a :: ws => if a.head? = some 35 then ((0, 0, 0), false, 0) else match ws with
    | [] => ((0, 0, 0), false, 12)
    | [b] => twoE a b (1, 0)
    | [b, c] => twoE a b (weightOf c)
    | _ :: _ :: _ :: _ => ((0, 0, 0), false, 12)
def oneE (l : List UInt8) : EdgeD × Bool × Nat := oneW (words l)

theorem num_bound (x : List UInt8) (m : Nat) : (num x m).1 ≤ m ∧ ((num x m).2 = 0 ∨ (num x m).2 = 3 ∨ (num x m).2 = 9) := by
  unfold num
  split
  · exact ⟨by omega, .inr (.inl rfl)⟩
  · split
    · exact ⟨by omega, .inr (.inr rfl)⟩
    · exact ⟨by simp only; omega, .inl rfl⟩
def okE (x : EdgeD) : Prop := x.1 < 4294967296 ∧ x.2.1 < 4294967296 ∧ x.2.2 < 4294967296
def mayE (x : EdgeD) : Prop := 1 ≤ x.2.2 ∧ x.2.2 ≤ 2147483647
instance (x : EdgeD) : Decidable (mayE x) := inferInstanceAs (Decidable (_ ∧ _))
theorem weightOf_ok (w : List UInt8) : ((weightOf w).2 = 0 ∧ 1 ≤ (weightOf w).1 ∧ (weightOf w).1 ≤ 2147483647) ∨ (weightOf w).2 = 3 ∨ (weightOf w).2 = 9 := by
  have h := num_bound w 2147483647
  unfold weightOf
  split
  · rename_i h1
    rcases h.2 with h2 | h2 | h2
    · exact absurd h2 h1
    · exact .inr (.inl h2)
    · exact .inr (.inr h2)
  · split
    · exact .inr (.inr rfl)
    · refine .inl ⟨rfl, ?_, h.1⟩
      simp only; omega
/-- an edge may be; whoever is passed over, or in error, is none -/
theorem twoE_ok (a b : List UInt8) (r : Nat × Nat) (hr : r.2 = 0 → 1 ≤ r.1 ∧ r.1 ≤ 2147483647) (hr2 : r.2 = 0 ∨ r.2 = 3 ∨ r.2 = 9) :
    ((twoE a b r).2.1 = true ∧ (twoE a b r).2.2 = 0 ∧ okE (twoE a b r).1 ∧ mayE (twoE a b r).1) ∨ ((twoE a b r).1 = (0, 0, 0) ∧ (twoE a b r).2.1 = false ∧ ((twoE a b r).2.2 = 3 ∨ (twoE a b r).2.2 = 9)) := by
  have ha := num_bound a 4294967295
  have hb := num_bound b 4294967295
  unfold twoE
  split
  · rename_i h; exact .inr ⟨rfl, rfl, by simp only; omega⟩
  · split
    · rename_i h; exact .inr ⟨rfl, rfl, by simp only; omega⟩
    · split
      · rename_i h; exact .inr ⟨rfl, rfl, by simp only; omega⟩
      · rename_i h
        have := hr (by omega)
        exact .inl ⟨rfl, rfl, ⟨by simp only; omega, by simp only; omega, by simp only; omega⟩, ⟨by simp only; omega, by simp only; omega⟩⟩
theorem oneW_ok (ws : List (List UInt8)) : ((oneW ws).2.1 = true ∧ (oneW ws).2.2 = 0 ∧ okE (oneW ws).1 ∧ mayE (oneW ws).1) ∨ ((oneW ws).1 = (0, 0, 0) ∧ (oneW ws).2.1 = false ∧ ((oneW ws).2.2 = 0 ∨ (oneW ws).2.2 = 3 ∨ (oneW ws).2.2 = 9 ∨ (oneW ws).2.2 = 12)) := by
  match ws with
  | [] => exact .inr ⟨rfl, rfl, .inl rfl⟩
  | [a] =>
    by_cases h : a.head? = some 35
    · rw [show oneW [a] = ((0, 0, 0), false, 0) from if_pos h]; exact .inr ⟨rfl, rfl, .inl rfl⟩
    · rw [show oneW [a] = ((0, 0, 0), false, 12) from if_neg h]; exact .inr ⟨rfl, rfl, .inr (.inr (.inr rfl))⟩
  | [a, b] =>
    by_cases h : a.head? = some 35
    · rw [show oneW [a, b] = ((0, 0, 0), false, 0) from if_pos h]; exact .inr ⟨rfl, rfl, .inl rfl⟩
    · rw [show oneW [a, b] = twoE a b (1, 0) from if_neg h]
      rcases twoE_ok a b (1, 0) (fun _ => ⟨by decide, by decide⟩) (.inl rfl) with h | ⟨h1, h2, h3⟩
      · exact .inl h
      · exact .inr ⟨h1, h2, by omega⟩
  | [a, b, c] =>
    by_cases h : a.head? = some 35
    · rw [show oneW [a, b, c] = ((0, 0, 0), false, 0) from if_pos h]; exact .inr ⟨rfl, rfl, .inl rfl⟩
    · rw [show oneW [a, b, c] = twoE a b (weightOf c) from if_neg h]
      rcases twoE_ok a b (weightOf c) (fun h => by have := weightOf_ok c; omega) (by have := weightOf_ok c; omega) with h | ⟨h1, h2, h3⟩
      · exact .inl h
      · exact .inr ⟨h1, h2, by omega⟩
  | a :: b :: c :: d :: r =>
    by_cases h : a.head? = some 35
    · rw [show oneW (a :: b :: c :: d :: r) = ((0, 0, 0), false, 0) from if_pos h]; exact .inr ⟨rfl, rfl, .inl rfl⟩
    · rw [show oneW (a :: b :: c :: d :: r) = ((0, 0, 0), false, 12) from if_neg h]; exact .inr ⟨rfl, rfl, .inr (.inr (.inr rfl))⟩

/-! ### texts -/
def readEGo : List EdgeD → Nat → List (List UInt8) → List EdgeD × Nat × Nat
  | out, _, [] => (out, 0, 0)
  | out, k, l :: ls => if (oneE l).2.2 ≠ 0 then ([], k + 1, (oneE l).2.2) else if (oneE l).2.1 = true then readEGo (out ++ [(oneE l).1]) (k + 1) ls else readEGo out (k + 1) ls
def readE (ls : List (List UInt8)) : List EdgeD × Nat × Nat := readEGo [] 0 ls
theorem readE_bad {out : List EdgeD} {k : Nat} {l : List UInt8} {ls : List (List UInt8)} (h : (oneE l).2.2 ≠ 0) : readEGo out k (l :: ls) = ([], k + 1, (oneE l).2.2) := by simp [readEGo, h]
theorem readE_take {out : List EdgeD} {k : Nat} {l : List UInt8} {ls : List (List UInt8)} (h : (oneE l).2.2 = 0) (h2 : (oneE l).2.1 = true) : readEGo out k (l :: ls) = readEGo (out ++ [(oneE l).1]) (k + 1) ls := by simp [readEGo, h, h2]
theorem readE_skip {out : List EdgeD} {k : Nat} {l : List UInt8} {ls : List (List UInt8)} (h : (oneE l).2.2 = 0) (h2 : (oneE l).2.1 = false) : readEGo out k (l :: ls) = readEGo out (k + 1) ls := by simp [readEGo, h, h2]
/-- what is taken from a place on, whatever stood ahead -/
theorem readE_shift : ∀ (ls : List (List UInt8)) (out : List EdgeD) (k : Nat),
    ((readE ls).2.2 = 0 ∧ (readE ls).2.1 = 0 ∧ readEGo out k ls = (out ++ (readE ls).1, 0, 0) ∧ (readE ls).1.length ≤ ls.length) ∨
    ((readE ls).2.2 ≠ 0 ∧ (readE ls).1 = [] ∧ 1 ≤ (readE ls).2.1 ∧ (readE ls).2.1 ≤ ls.length ∧ ((readE ls).2.2 = 3 ∨ (readE ls).2.2 = 9 ∨ (readE ls).2.2 = 12) ∧ readEGo out k ls = ([], k + (readE ls).2.1, (readE ls).2.2))
  | [], out, k => .inl ⟨rfl, rfl, by simp [readE, readEGo], by simp [readE, readEGo]⟩
  | l :: ls, out, k => by
    by_cases he : (oneE l).2.2 = 0
    · by_cases ht : (oneE l).2.1 = true
      · have e0 : readE (l :: ls) = readEGo [(oneE l).1] 1 ls := readE_take (out := []) (k := 0) he ht
        rw [e0, readE_take he ht]
        rcases readE_shift ls [(oneE l).1] 1 with ⟨a1, a2, a3, a4⟩ | ⟨a1, a2, a3, a4, a5, a6⟩
        · rcases readE_shift ls (out ++ [(oneE l).1]) (k + 1) with ⟨b1, b2, b3, b4⟩ | ⟨b1, _⟩
          · rw [a3, b3]
            exact .inl ⟨rfl, rfl, by simp, by simp; omega⟩
          · exact absurd a1 b1
        · rcases readE_shift ls (out ++ [(oneE l).1]) (k + 1) with ⟨b1, _⟩ | ⟨b1, b2, b3, b4, b5, b6⟩
          · exact absurd b1 a1
          · rw [a6, b6]
            exact .inr ⟨a1, rfl, by simp only; omega, by simp; omega, a5, by simp only [Prod.mk.injEq, true_and, and_true]; omega⟩
      · have ht : (oneE l).2.1 = false := by simpa using ht
        have e0 : readE (l :: ls) = readEGo [] 1 ls := readE_skip (out := []) (k := 0) he ht
        rw [e0, readE_skip he ht]
        rcases readE_shift ls [] 1 with ⟨a1, a2, a3, a4⟩ | ⟨a1, a2, a3, a4, a5, a6⟩
        · rcases readE_shift ls out (k + 1) with ⟨b1, b2, b3, b4⟩ | ⟨b1, _⟩
          · rw [a3, b3]
            exact .inl ⟨rfl, rfl, by simp, by simp; omega⟩
          · exact absurd a1 b1
        · rcases readE_shift ls out (k + 1) with ⟨b1, _⟩ | ⟨b1, b2, b3, b4, b5, b6⟩
          · exact absurd b1 a1
          · rw [a6, b6]
            exact .inr ⟨a1, rfl, by simp only; omega, by simp; omega, a5, by simp only [Prod.mk.injEq, true_and, and_true]; omega⟩
    · have e0 : readE (l :: ls) = ([], 1, (oneE l).2.2) := readE_bad (out := []) (k := 0) he
      rw [e0, readE_bad he]
      have h3 := oneW_ok (words l)
      rcases h3 with ⟨_, h, _⟩ | ⟨_, _, h⟩
      · exact absurd h he
      · exact .inr ⟨he, rfl, by simp, by simp, by simp only; unfold oneE at he ⊢; omega, by simp⟩
/-- of two texts' lines -/
theorem readEGo_app : ∀ (a : List (List UInt8)) (b : List (List UInt8)) (out : List EdgeD) (k : Nat),
    ((readEGo out k a).2.2 = 0 → readEGo out k (a ++ b) = readEGo (readEGo out k a).1 (k + a.length) b) ∧ ((readEGo out k a).2.2 ≠ 0 → readEGo out k (a ++ b) = readEGo out k a)
  | [], b, out, k => ⟨fun _ => by simp [readEGo], fun h => by simp [readEGo] at h⟩
  | l :: a, b, out, k => by
    rw [List.cons_append]
    by_cases he : (oneE l).2.2 = 0
    · by_cases ht : (oneE l).2.1 = true
      · rw [readE_take he ht, readE_take he ht]
        obtain ⟨h1, h2⟩ := readEGo_app a b (out ++ [(oneE l).1]) (k + 1)
        refine ⟨fun h => ?_, h2⟩
        rw [h1 h, List.length_cons]
        congr 1; omega
      · have ht : (oneE l).2.1 = false := by simpa using ht
        rw [readE_skip he ht, readE_skip he ht]
        obtain ⟨h1, h2⟩ := readEGo_app a b out (k + 1)
        refine ⟨fun h => ?_, h2⟩
        rw [h1 h, List.length_cons]
        congr 1; omega
    · rw [readE_bad he, readE_bad he]
      exact ⟨fun h => absurd h he, fun _ => rfl⟩
theorem readE_app (a b : List (List UInt8)) :
    ((readE a).2.2 ≠ 0 ∧ readE (a ++ b) = readE a ∧ (readE a).1 = []) ∨
    ((readE a).2.2 = 0 ∧ (readE b).2.2 ≠ 0 ∧ readE (a ++ b) = ([], a.length + (readE b).2.1, (readE b).2.2)) ∨
    ((readE a).2.2 = 0 ∧ (readE b).2.2 = 0 ∧ readE (a ++ b) = ((readE a).1 ++ (readE b).1, 0, 0)) := by
  obtain ⟨h1, h2⟩ := readEGo_app a b [] 0
  rcases readE_shift a [] 0 with ⟨a1, a2, a3, a4⟩ | ⟨a1, a2, a3, a4, a5, a6⟩
  · have h3 := h1 a1
    rcases readE_shift b (readEGo [] 0 a).1 (0 + a.length) with ⟨b1, b2, b3, b4⟩ | ⟨b1, b2, b3, b4, b5, b6⟩
    · exact .inr (.inr ⟨a1, b1, h3.trans b3⟩)
    · refine .inr (.inl ⟨a1, b1, ?_⟩)
      have h4 := h3.trans b6
      rw [Nat.zero_add] at h4
      exact h4
  · exact .inl ⟨a1, h2 a1, a2⟩
theorem readE_ok : ∀ (ls : List (List UInt8)) (out : List EdgeD) (k : Nat), (∀ x ∈ out, okE x ∧ mayE x) → ∀ x ∈ (readEGo out k ls).1, okE x ∧ mayE x
  | [], out, k, h => by simpa [readEGo] using h
  | l :: ls, out, k, h => by
    by_cases he : (oneE l).2.2 = 0
    · by_cases ht : (oneE l).2.1 = true
      · rw [readE_take he ht]
        refine readE_ok ls _ _ (fun x hx => ?_)
        rcases List.mem_append.1 hx with h1 | h1
        · exact h x h1
        · rw [List.mem_singleton.1 h1]
          rcases oneW_ok (words l) with ⟨_, _, h2, h3⟩ | ⟨_, h2, _⟩
          · exact ⟨h2, h3⟩
          · unfold oneE at ht; rw [h2] at ht; cases ht
      · have ht : (oneE l).2.1 = false := by simpa using ht
        rw [readE_skip he ht]
        exact readE_ok ls _ _ h
    · rw [readE_bad he]
      simp

/-! ### printed -/
theorem isDig_plain {d : UInt8} (h : isDig d = true) : isSp d = false ∧ (d == 10) = false ∧ d ≠ 35 := by
  have h2 : 48 ≤ d.toNat ∧ d.toNat ≤ 57 := by
    unfold isDig at h
    rw [Bool.and_eq_true, decide_eq_true_eq, decide_eq_true_eq, UInt8.le_iff_toNat_le, UInt8.le_iff_toNat_le] at h
    exact h
  refine ⟨?_, ?_, ?_⟩
  · unfold isSp
    rw [Bool.or_eq_false_iff, beq_eq_false_iff_ne, beq_eq_false_iff_ne]
    constructor <;> (rintro rfl; revert h2; decide)
  · rw [beq_eq_false_iff_ne]
    rintro rfl; revert h2; decide
  · rintro rfl; revert h2; decide
theorem digits_pl (n : Nat) : ∀ d ∈ digits n, isSp d = false ∧ (d == 10) = false ∧ d ≠ 35 := fun d hd => isDig_plain (List.all_eq_true.1 (digits_all n) d hd)
def bodyE (x : EdgeD) : List UInt8 := digits x.1 ++ 32 :: (digits x.2.1 ++ 32 :: digits x.2.2)
def lineE (x : EdgeD) : List UInt8 := bodyE x ++ [10]
def printE (l : List EdgeD) : List UInt8 := l.flatMap lineE
theorem printE_snoc (l : List EdgeD) (x : EdgeD) : printE (l ++ [x]) = printE l ++ lineE x := by simp [printE]
theorem bodyE_nolf (x : EdgeD) : ∀ d ∈ bodyE x, (d == 10) = false := by
  intro d hd
  unfold bodyE at hd
  rcases List.mem_append.1 hd with h | h
  · exact (digits_pl _ d h).2.1
  · rcases List.mem_cons.1 h with rfl | h
    · decide
    · rcases List.mem_append.1 h with h | h
      · exact (digits_pl _ d h).2.1
      · rcases List.mem_cons.1 h with rfl | h
        · decide
        · exact (digits_pl _ d h).2.1
theorem words_bodyE (x : EdgeD) : words (bodyE x) = [digits x.1, digits x.2.1, digits x.2.2] := by
  unfold bodyE
  rw [words_cut _ _ 32 (by decide) (fun d hd => (digits_pl _ d hd).1), if_neg (digits_ne _), words_cut _ _ 32 (by decide) (fun d hd => (digits_pl _ d hd).1), if_neg (digits_ne _),
    words_last _ (fun d hd => (digits_pl _ d hd).1), if_neg (digits_ne _)]
theorem head_digits (n : Nat) : (digits n).head? ≠ some 35 := by
  intro h
  match hd : digits n, h with
  | [], h => simp at h
  | d :: l, h =>
    simp only [List.head?_cons, Option.some.injEq] at h
    exact (digits_pl n d (by rw [hd]; simp)).2.2 h
theorem oneW_digits (x : EdgeD) (h : okE x) : oneW [digits x.1, digits x.2.1, digits x.2.2] = if mayE x then (x, true, 0) else ((0, 0, 0), false, 9) := by
  obtain ⟨h1, h2, h3⟩ := h
  have n1 : num (digits x.1) 4294967295 = (x.1, 0) := by rw [num_digits, if_neg (by omega)]
  have n2 : num (digits x.2.1) 4294967295 = (x.2.1, 0) := by rw [num_digits, if_neg (by omega)]
  have hw : weightOf (digits x.2.2) = if mayE x then (x.2.2, 0) else (0, 9) := by
    unfold weightOf
    rw [num_digits]
    by_cases hm : mayE x
    · have := hm.1; have := hm.2
      rw [if_neg (by omega : ¬ 2147483647 < x.2.2), if_pos hm]
      simp; omega
    · rw [if_neg hm]
      by_cases hb : 2147483647 < x.2.2
      · simp [hb]
      · have h0 : x.2.2 = 0 := by unfold mayE at hm; omega
        simp [h0]
  rw [show oneW [digits x.1, digits x.2.1, digits x.2.2] = twoE (digits x.1) (digits x.2.1) (weightOf (digits x.2.2)) from if_neg (head_digits x.1)]
  simp only [twoE, n1, n2, hw]
  by_cases hm : mayE x
  · simp [hm]
  · simp [hm]
theorem oneE_bodyE (x : EdgeD) (h : okE x) : oneE (bodyE x) = if mayE x then (x, true, 0) else ((0, 0, 0), false, 9) := by
  unfold oneE; rw [words_bodyE, oneW_digits x h]
theorem lines_printE : ∀ (l : List EdgeD), lines (printE l) = l.map bodyE
  | [] => by simp [printE, lines, linesGo]
  | x :: l => by
    have h : printE (x :: l) = bodyE x ++ 10 :: printE l := by simp [printE, lineE]
    rw [h, lines_cut _ _ (bodyE_nolf x), lines_printE l, List.map_cons]
theorem readE_printed : ∀ (l out : List EdgeD) (k : Nat), (∀ x ∈ l, okE x) →
    ((∀ x ∈ l, mayE x) ∧ readEGo out k (l.map bodyE) = (out ++ l, 0, 0)) ∨ (¬ (∀ x ∈ l, mayE x) ∧ ∃ n, readEGo out k (l.map bodyE) = ([], n, 9) ∧ k + 1 ≤ n ∧ n ≤ k + l.length)
  | [], out, k, _ => .inl ⟨by simp, by simp [readEGo]⟩
  | x :: l, out, k, h => by
    have h1 := oneE_bodyE x (h x (by simp))
    rw [List.map_cons]
    by_cases hm : mayE x
    · rw [if_pos hm] at h1
      rw [readE_take (by rw [h1]) (by rw [h1]), h1]
      rcases readE_printed l (out ++ [x]) (k + 1) (fun y hy => h y (by simp [hy])) with ⟨a, b⟩ | ⟨a, n, b, c, d⟩
      · refine .inl ⟨fun y hy => ?_, by rw [b]; simp⟩
        rcases List.mem_cons.1 hy with rfl | hy
        · exact hm
        · exact a y hy
      · exact .inr ⟨fun e => a (fun y hy => e y (by simp [hy])), n, b, by omega, by simp; omega⟩
    · rw [if_neg hm] at h1
      exact .inr ⟨fun e => hm (e x (by simp)), k + 1, by rw [readE_bad (by rw [h1]; simp), h1], by omega, by simp⟩
theorem readE_printE (l : List EdgeD) (h : ∀ x ∈ l, okE x) :
    ((∀ x ∈ l, mayE x) ∧ readE (lines (printE l)) = (l, 0, 0)) ∨ (¬ (∀ x ∈ l, mayE x) ∧ ∃ n, readE (lines (printE l)) = ([], n, 9) ∧ 1 ≤ n ∧ n ≤ l.length) := by
  rw [lines_printE]
  rcases readE_printed l [] 0 h with ⟨a, b⟩ | ⟨a, n, b, c, d⟩
  · exact .inl ⟨a, b⟩
  · exact .inr ⟨a, n, b, by omega, by omega⟩
theorem lineE_len (x : EdgeD) (h : okE x) : (lineE x).length ≤ 33 := by
  obtain ⟨h1, h2, h3⟩ := h
  have a1 := digits_len x.1 10 (by omega) (by omega)
  have a2 := digits_len x.2.1 10 (by omega) (by omega)
  have a3 := digits_len x.2.2 10 (by omega) (by omega)
  simp [lineE, bodyE]; omega
theorem printE_len : ∀ (l : List EdgeD), (∀ x ∈ l, okE x) → (printE l).length ≤ 33 * l.length
  | [], _ => by simp [printE]
  | x :: l, h => by
    have h1 := printE_len l (fun u hu => h u (by simp [hu]))
    have h2 := lineE_len x (h x (by simp))
    have e : printE (x :: l) = lineE x ++ printE l := by simp [printE]
    rw [e, List.length_append, List.length_cons]
    omega
/-- words aren't empty -/
theorem wordsGo_ne : ∀ (l w : List UInt8), ∀ x ∈ wordsGo w l, x ≠ []
  | [], w, x, hx => by
    unfold wordsGo at hx
    split at hx <;> simp_all
  | c :: l, w, x, hx => by
    unfold wordsGo at hx
    split at hx
    · split at hx
      · exact wordsGo_ne l _ x hx
      · rcases List.mem_cons.1 hx with rfl | hx
        · assumption
        · exact wordsGo_ne l _ x hx
    · exact wordsGo_ne l _ x hx
theorem words_ne (l : List UInt8) : ∀ x ∈ words l, x ≠ [] := wordsGo_ne l []
theorem wordsGo_mem2 : ∀ (l p : List UInt8), ∀ x ∈ wordsGo p l, x.length ≤ p.length + l.length
  | [], p, x, hx => by
    unfold wordsGo at hx
    split at hx <;> simp_all
  | c :: l, p, x, hx => by
    unfold wordsGo at hx
    split at hx
    · split at hx
      · have := wordsGo_mem2 l _ x hx; simp at this ⊢; omega
      · rcases List.mem_cons.1 hx with rfl | hx
        · simp; try omega
        · have := wordsGo_mem2 l _ x hx; simp at this ⊢; omega
    · have := wordsGo_mem2 l _ x hx; simp at this ⊢; omega
theorem words_mem2 (l : List UInt8) : ∀ x ∈ words l, x.length ≤ l.length := fun x hx => by simpa using wordsGo_mem2 l [] x hx
theorem linesGo_mem2 : ∀ (l p : List UInt8), ∀ x ∈ linesGo p l, x.length ≤ p.length + l.length
  | [], p, x, hx => by
    unfold linesGo at hx
    split at hx <;> simp_all
  | c :: l, p, x, hx => by
    unfold linesGo at hx
    split at hx
    · rcases List.mem_cons.1 hx with rfl | hx
      · simp; try omega
      · have := linesGo_mem2 l _ x hx; simp at this ⊢; omega
    · have := linesGo_mem2 l _ x hx; simp at this ⊢; omega
theorem lines_mem2 (l : List UInt8) : ∀ x ∈ lines l, x.length ≤ l.length := fun x hx => by simpa using linesGo_mem2 l [] x hx
/-- a text that ends with a line feed, and another one -/
theorem lines_two (p r : List UInt8) : lines (p ++ 10 :: r) = lines (p ++ [10]) ++ lines r := by
  suffices h : ∀ (p w : List UInt8), linesGo w (p ++ 10 :: r) = linesGo w (p ++ [10]) ++ linesGo [] r from h p []
  intro p
  induction p with
  | nil => intro w; simp [linesGo]
  | cons c p ih =>
    intro w
    rw [List.cons_append, List.cons_append, linesGo, linesGo.eq_2 w c (p ++ [10])]
    split
    · rw [ih, List.cons_append]
    · exact ih _
theorem lines_count (p : List UInt8) : (lines (p ++ [10])).length = (p ++ [10]).countP (· == 10) := by
  suffices h : ∀ (p w : List UInt8), (linesGo w (p ++ [10])).length = (p ++ [10]).countP (· == 10) from h p []
  intro p
  induction p with
  | nil => intro w; simp [linesGo]
  | cons c p ih =>
    intro w
    rw [List.cons_append, linesGo, List.countP_cons]
    split
    · rw [List.length_cons, ih]
    · rw [ih]; rfl
end Go.Proofs.Ytafbjkbdfdeacaa
