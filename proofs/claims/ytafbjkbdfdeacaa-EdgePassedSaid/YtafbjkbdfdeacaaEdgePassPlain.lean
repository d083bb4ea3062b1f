/- Notes and blank lines among edges' lines. No program in sight. -/
import Derived.Test.YtafbjkbdfdeacaaEdgePlain
namespace Go.Proofs.Ytafbjkbdfdeacaa
set_option linter.unusedSimpArgs false
set_option linter.unusedVariables false

def clean (n : List UInt8) : List UInt8 := n.filter (fun c => !(c == 10))
def noteB (n : List UInt8) : List UInt8 := [32, 9, 35] ++ clean n ++ [10, 32, 10]
def noteL (n : List UInt8) : List (List UInt8) := [[32, 9, 35] ++ clean n, [32]]
def pieceB (l : List EdgeD) (ns : List (List UInt8)) (k : Nat) : List UInt8 := (match ns[k]? with | some n => noteB n | none => []) ++ (match l[k]? with | some x => [9, 32] ++ lineE x | none => [])
def pieceL (l : List EdgeD) (ns : List (List UInt8)) (k : Nat) : List (List UInt8) := (match ns[k]? with | some n => noteL n | none => []) ++ (match l[k]? with | some x => [[9, 32] ++ bodyE x] | none => [])
def textB (l : List EdgeD) (ns : List (List UInt8)) : Nat → List UInt8
  | 0 => []
  | k + 1 => textB l ns k ++ pieceB l ns k
def textL (l : List EdgeD) (ns : List (List UInt8)) : Nat → List (List UInt8)
  | 0 => []
  | k + 1 => textL l ns k ++ pieceL l ns k
theorem clean_nolf (n : List UInt8) : ∀ d ∈ clean n, (d == 10) = false := fun d hd => by
  have := (List.mem_filter.1 hd).2
  simpa using this
theorem lines_noteB (n r : List UInt8) : lines (noteB n ++ r) = noteL n ++ lines r := by
  have h : noteB n ++ r = ([32, 9, 35] ++ clean n) ++ 10 :: ([32] ++ 10 :: r) := by simp [noteB]
  rw [h, lines_cut _ _ (fun d hd => ?_), lines_cut _ _ (fun d hd => ?_)]
  · simp [noteL]
  · rw [List.mem_singleton.1 hd]; decide
  · rcases List.mem_append.1 hd with h | h
    · simp at h
      rcases h with rfl | rfl | rfl <;> decide
    · exact clean_nolf n d h
theorem lines_edgeB (x : EdgeD) (r : List UInt8) : lines (([9, 32] ++ lineE x) ++ r) = ([9, 32] ++ bodyE x) :: lines r := by
  have h : ([9, 32] ++ lineE x) ++ r = ([9, 32] ++ bodyE x) ++ 10 :: r := by simp [lineE]
  rw [h, lines_cut _ _ (fun d hd => ?_)]
  rcases List.mem_append.1 hd with h | h
  · simp at h
    rcases h with rfl | rfl <;> decide
  · exact bodyE_nolf x d h
theorem lines_pieceB (l : List EdgeD) (ns : List (List UInt8)) (k : Nat) (r : List UInt8) : lines (pieceB l ns k ++ r) = pieceL l ns k ++ lines r := by
  unfold pieceB pieceL
  cases ns[k]? with
  | none =>
    cases l[k]? with
    | none => simp
    | some x => simpa using lines_edgeB x r
  | some n =>
    cases l[k]? with
    | none => simpa using lines_noteB n r
    | some x =>
      simp only [List.append_assoc]
      rw [lines_noteB n, ← List.append_assoc [9, 32], lines_edgeB x r]
      simp
theorem lines_textB (l : List EdgeD) (ns : List (List UInt8)) : ∀ (k : Nat) (r : List UInt8), lines (textB l ns k ++ r) = textL l ns k ++ lines r
  | 0, r => by simp [textB, textL]
  | k + 1, r => by
    show lines (textB l ns k ++ pieceB l ns k ++ r) = textL l ns k ++ pieceL l ns k ++ lines r
    rw [List.append_assoc, lines_textB l ns k, lines_pieceB, List.append_assoc]
theorem wordsGo_head : ∀ (x w : List UInt8) (c : UInt8), ∃ a r, wordsGo (c :: w) x = (c :: a) :: r
  | [], w, c => ⟨w, [], by simp [wordsGo]⟩
  | d :: x, w, c => by
    unfold wordsGo
    split
    · exact ⟨w, wordsGo [] x, by simp⟩
    · obtain ⟨a, r, h⟩ := wordsGo_head x (w ++ [d]) c
      exact ⟨a, r, by simpa using h⟩
theorem oneE_note (x : List UInt8) : oneE ([32, 9, 35] ++ x) = ((0, 0, 0), false, 0) := by
  obtain ⟨a, r, h⟩ := wordsGo_head x [] 35
  have h2 : words ([32, 9, 35] ++ x) = (35 :: a) :: r := by
    rw [← h]
    unfold words
    simp [wordsGo, isSp]
  unfold oneE
  rw [h2]
  simp [oneW]
theorem oneE_blank : oneE [32] = ((0, 0, 0), false, 0) := by decide
theorem oneE_led (x : List UInt8) : oneE ([9, 32] ++ x) = oneE x := by
  have : words ([9, 32] ++ x) = words x := by
    unfold words
    simp [wordsGo, isSp]
  unfold oneE
  rw [this]
theorem readE_noteL (n : List UInt8) : readE (noteL n) = ([], 0, 0) := by
  unfold readE noteL
  rw [readE_skip (by rw [oneE_note]) (by rw [oneE_note]), readE_skip (by rw [oneE_blank]) (by rw [oneE_blank])]
  rfl
theorem readE_edgeL (x : EdgeD) (h : okE x) (hm : mayE x) : readE [[9, 32] ++ bodyE x] = ([x], 0, 0) := by
  have e : oneE ([9, 32] ++ bodyE x) = (x, true, 0) := by rw [oneE_led, oneE_bodyE x h, if_pos hm]
  unfold readE
  rw [readE_take (by rw [e]) (by rw [e]), e]
  rfl
theorem readE_good {a b : List (List UInt8)} {la lb : List EdgeD} (ha : readE a = (la, 0, 0)) (hb : readE b = (lb, 0, 0)) : readE (a ++ b) = (la ++ lb, 0, 0) := by
  rcases readE_app a b with ⟨h, _⟩ | ⟨_, h, _⟩ | ⟨_, _, h⟩
  · rw [ha] at h; exact absurd rfl h
  · rw [hb] at h; exact absurd rfl h
  · rw [h, ha, hb]
theorem readE_pieceL (l : List EdgeD) (ns : List (List UInt8)) (k : Nat) (h : ∀ x ∈ l, okE x ∧ mayE x) : readE (pieceL l ns k) = ((match l[k]? with | some x => [x] | none => []), 0, 0) := by
  unfold pieceL
  have h1 : readE (match ns[k]? with | some n => noteL n | none => []) = ([], 0, 0) := by
    cases ns[k]? with
    | none => rfl
    | some n => exact readE_noteL n
  have h2 : readE (match l[k]? with | some x => [[9, 32] ++ bodyE x] | none => []) = ((match l[k]? with | some x => [x] | none => []), 0, 0) := by
    cases hk : l[k]? with
    | none => rfl
    | some x =>
      have hx := h x (List.mem_of_getElem? hk)
      exact readE_edgeL x hx.1 hx.2
  simpa using readE_good h1 h2
theorem readE_textL (l : List EdgeD) (ns : List (List UInt8)) (h : ∀ x ∈ l, okE x ∧ mayE x) : ∀ k, readE (textL l ns k) = (l.take k, 0, 0)
  | 0 => by simp [textL, readE, readEGo]
  | k + 1 => by
    show readE (textL l ns k ++ pieceL l ns k) = _
    rw [readE_good (readE_textL l ns h k) (readE_pieceL l ns k h), List.take_add_one]
    cases l[k]? <;> rfl
theorem readE_badL (a : List (List UInt8)) {la : List EdgeD} (ha : readE a = (la, 0, 0)) : readE (a ++ [[49, 32, 120]]) = ([], a.length + 1, 3) := by
  have hb : readE [[49, 32, 120]] = ([], 1, 3) := by decide +kernel
  rcases readE_app a [[49, 32, 120]] with ⟨h, _⟩ | ⟨_, _, h⟩ | ⟨_, h, _⟩
  · rw [ha] at h; exact absurd rfl h
  · rw [h, hb]
  · rw [hb] at h; cases h
theorem textB_len (l : List EdgeD) (ns : List (List UInt8)) (h : ∀ x ∈ l, okE x) : ∀ k, (∀ j n, j < k → ns[j]? = some n → n.length ≤ 100) → (textB l ns k).length ≤ 141 * k ∧ (textL l ns k).length ≤ 3 * k
  | 0, _ => by simp [textB, textL]
  | k + 1, hn => by
    obtain ⟨h1, h2⟩ := textB_len l ns h k (fun j n hj => hn j n (by omega))
    have ha : (match ns[k]? with | some n => noteB n | none => []).length ≤ 106 ∧ (match ns[k]? with | some n => noteL n | none => []).length ≤ 2 := by
      cases hk : ns[k]? with
      | none => simp
      | some n =>
        have := hn k n (by omega) hk
        have := List.length_filter_le (fun c => !(c == 10)) n
        simp [noteB, noteL, clean]; omega
    have hb : (match l[k]? with | some x => [9, 32] ++ lineE x | none => []).length ≤ 35 ∧ (match l[k]? with | some x => [[9, 32] ++ bodyE x] | none => []).length ≤ 1 := by
      cases hk : l[k]? with
      | none => simp
      | some x =>
        have := lineE_len x (h x (List.mem_of_getElem? hk))
        simp; omega
    have e1 : (textB l ns (k + 1)).length = (textB l ns k).length + (pieceB l ns k).length := by simp [textB]
    have e2 : (textL l ns (k + 1)).length = (textL l ns k).length + (pieceL l ns k).length := by simp [textL]
    rw [e1, e2]
    unfold pieceB pieceL
    rw [List.length_append, List.length_append]
    omega
end Go.Proofs.Ytafbjkbdfdeacaa
