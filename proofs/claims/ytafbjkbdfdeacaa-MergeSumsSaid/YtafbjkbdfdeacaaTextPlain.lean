/- Texts, words, numbers, digits: plain lists of bytes and natural numbers, no program in sight. -/
import Derived.Test.YtafbjkbdfdeacaaBase
namespace Go.Proofs.Ytafbjkbdfdeacaa
set_option linter.unusedSimpArgs false
set_option linter.unusedVariables false

/-! ### words -/
def isSp (c : UInt8) : Bool := c == 32 || c == 9
/-- the reference's way: byte by byte, 'w' the word so far -/
def wordsGo : List UInt8 → List UInt8 → List (List UInt8)
  | w, [] => if w = [] then [] else [w]
  | w, c :: cs => if isSp c then (if w = [] then wordsGo [] cs else w :: wordsGo [] cs) else wordsGo (w ++ [c]) cs
def words (l : List UInt8) : List (List UInt8) := wordsGo [] l

theorem wordsGo_plain : ∀ (p w r : List UInt8), (∀ c ∈ p, isSp c = false) → wordsGo w (p ++ r) = wordsGo (w ++ p) r
  | [], w, r, _ => by simp
  | c :: p, w, r, h => by
    rw [List.cons_append, wordsGo, h c (by simp)]
    simp only [Bool.false_eq_true, if_false]
    rw [wordsGo_plain p (w ++ [c]) r (fun d hd => h d (by simp [hd]))]
    simp
theorem words_cut (p r : List UInt8) (c : UInt8) (hc : isSp c = true) (h : ∀ d ∈ p, isSp d = false) : words (p ++ c :: r) = if p = [] then words r else p :: words r := by
  unfold words
  rw [wordsGo_plain p [] _ h, List.nil_append, wordsGo, hc]
  simp
theorem words_last (p : List UInt8) (h : ∀ d ∈ p, isSp d = false) : words p = if p = [] then [] else [p] := by
  have := wordsGo_plain p [] [] h
  rw [List.append_nil, List.nil_append] at this
  unfold words
  rw [this, wordsGo]

/-! ### lines -/
/-- the reference's way -/
def linesGo : List UInt8 → List UInt8 → List (List UInt8)
  | w, [] => if w = [] then [] else [w]
  | w, c :: cs => if c == 10 then w :: linesGo [] cs else linesGo (w ++ [c]) cs
def lines (l : List UInt8) : List (List UInt8) := linesGo [] l
theorem linesGo_plain : ∀ (p w r : List UInt8), (∀ c ∈ p, (c == 10) = false) → linesGo w (p ++ r) = linesGo (w ++ p) r
  | [], w, r, _ => by simp
  | c :: p, w, r, h => by
    rw [List.cons_append, linesGo, h c (by simp)]
    simp only [Bool.false_eq_true, if_false]
    rw [linesGo_plain p (w ++ [c]) r (fun d hd => h d (by simp [hd]))]
    simp
theorem lines_cut (p r : List UInt8) (h : ∀ d ∈ p, (d == 10) = false) : lines (p ++ 10 :: r) = p :: lines r := by
  unfold lines
  rw [linesGo_plain p [] _ h, List.nil_append, linesGo]
  simp
theorem lines_last (p : List UInt8) (h : ∀ d ∈ p, (d == 10) = false) : lines p = if p = [] then [] else [p] := by
  have := linesGo_plain p [] [] h
  rw [List.append_nil, List.nil_append] at this
  unfold lines
  rw [this, linesGo]

/-! ### numbers -/
def isDig (c : UInt8) : Bool := 48 ≤ c && c ≤ 57
def digV (c : UInt8) : Nat := c.toNat - 48
def valFrom (n : Nat) (l : List UInt8) : Nat := l.foldl (fun n c => 10 * n + digV c) n
def val (l : List UInt8) : Nat := valFrom 0 l
theorem valFrom_append (n : Nat) (a b : List UInt8) : valFrom n (a ++ b) = valFrom (valFrom n a) b := List.foldl_append
theorem valFrom_ge (l : List UInt8) : ∀ n, n ≤ valFrom n l := by
  induction l with
  | nil => exact fun n => Nat.le_refl n
  | cons c l ih => exact fun n => Nat.le_trans (by omega) (ih (10 * n + digV c))
theorem valFrom_mono (l : List UInt8) : ∀ n m, n ≤ m → valFrom n l ≤ valFrom m l := by
  induction l with
  | nil => exact fun n m h => h
  | cons c l ih => exact fun n m h => ih (10 * n + digV c) (10 * m + digV c) (by omega)
/-- the answer: the number, or the error's number (3: the form, 9: too great) -/
def bad3 (l : List UInt8) : Bool := l.isEmpty || (decide (1 < l.length) && l.head? == some 48) || !l.all isDig
def num (l : List UInt8) (most : Nat) : Nat × Nat := if bad3 l then (0, 3) else if most < val l then (0, 9) else (val l, 0)

/-- a number's digits -/
def digits (n : Nat) : List UInt8 := if n < 10 then [UInt8.ofNat (48 + n)] else digits (n / 10) ++ [UInt8.ofNat (48 + n % 10)]
theorem dig_isDig (k : Nat) (h : k < 10) : isDig (UInt8.ofNat (48 + k)) = true ∧ digV (UInt8.ofNat (48 + k)) = k := by
  have e : (UInt8.ofNat (48 + k)).toNat = 48 + k := by simp [UInt8.toNat_ofNat]; omega
  unfold isDig digV
  rw [Bool.and_eq_true, decide_eq_true_eq, decide_eq_true_eq, UInt8.le_iff_toNat_le, UInt8.le_iff_toNat_le, e]
  exact ⟨⟨by show 48 ≤ _; omega, by show _ ≤ 57; omega⟩, by omega⟩
theorem val_digits (n : Nat) : val (digits n) = n := by
  induction n using Nat.strongRecOn with
  | _ n ih =>
    rw [digits]
    split
    · rename_i h
      show 10 * 0 + digV _ = n
      rw [(dig_isDig n h).2]; omega
    · rename_i h
      unfold val at ih ⊢
      rw [valFrom_append, ih (n / 10) (by omega)]
      show 10 * (n / 10) + digV _ = n
      rw [(dig_isDig (n % 10) (by omega)).2]; omega
theorem digits_all (n : Nat) : (digits n).all isDig = true := by
  induction n using Nat.strongRecOn with
  | _ n ih =>
    rw [digits]
    split
    · rename_i h
      rw [List.all_cons, (dig_isDig n h).1]; rfl
    · rename_i h
      rw [List.all_append, ih (n / 10) (by omega)]
      rw [List.all_cons, (dig_isDig (n % 10) (by omega)).1]; rfl
theorem digits_ne (n : Nat) : digits n ≠ [] := by
  rw [digits]; split <;> simp
theorem digits_head (n : Nat) (h : 1 < (digits n).length) : (digits n).head? ≠ some 48 := by
  induction n using Nat.strongRecOn with
  | _ n ih =>
    rw [digits] at h ⊢
    split at h
    · simp at h
    · rename_i hn
      rw [if_neg hn]
      rw [List.head?_append]
      by_cases h1 : n / 10 < 10
      · have e : digits (n / 10) = [UInt8.ofNat (48 + n / 10)] := by rw [digits, if_pos h1]
        rw [e]
        simp only [List.head?_cons, Option.some_or, ne_eq, Option.some.injEq]
        intro hc
        have := (dig_isDig (n / 10) h1).2
        rw [hc] at this
        have h48 : digV 48 = 0 := rfl
        omega
      · have h2 : 1 < (digits (n / 10)).length := by
          rw [digits, if_neg h1, List.length_append, List.length_singleton]
          have := List.length_pos_iff.2 (digits_ne (n / 10 / 10))
          omega
        have := ih (n / 10) (by omega) h2
        cases hd : (digits (n / 10)).head? with
        | none => simp [List.head?_eq_none_iff] at hd; exact absurd hd (digits_ne _)
        | some c => rw [hd] at this; simpa using this
theorem bad3_digits (n : Nat) : bad3 (digits n) = false := by
  unfold bad3
  rw [digits_all]
  have h1 := digits_ne n
  by_cases h : 1 < (digits n).length
  · have := digits_head n h
    simp [h1, this]
  · simp [h, h1]
theorem num_digits (n most : Nat) : num (digits n) most = if most < n then (0, 9) else (n, 0) := by
  unfold num
  rw [bad3_digits, val_digits]
  rfl
theorem digits_len (n k : Nat) (hk : 1 ≤ k) (h : n < 10 ^ k) : (digits n).length ≤ k := by
  induction k generalizing n with
  | zero => omega
  | succ k ih =>
    rw [digits]
    split
    · simp
    · rename_i hn
      rw [List.length_append, List.length_singleton]
      have hk1 : 1 ≤ k := by
        rcases Nat.eq_zero_or_pos k with rfl | h0
        · simp at h; omega
        · exact h0
      have := ih (n / 10) hk1 (by rw [Nat.pow_succ] at h; omega)
      omega

/-! ### the greatest uint64's digits, against a word's -/
theorem valFrom_lt (l : List UInt8) (h : l.all isDig = true) : ∀ n, valFrom n l < (n + 1) * 10 ^ l.length := by
  induction l with
  | nil => intro n; simp [valFrom]
  | cons c l ih =>
    intro n
    simp only [List.all_cons, Bool.and_eq_true] at h
    have hd : digV c ≤ 9 := by
      have h1 := h.1
      unfold isDig at h1
      rw [Bool.and_eq_true, decide_eq_true_eq, decide_eq_true_eq, UInt8.le_iff_toNat_le, UInt8.le_iff_toNat_le] at h1
      have h2 : c.toNat ≤ 57 := h1.2
      unfold digV; omega
    have := ih h.2 (10 * n + digV c)
    show valFrom (10 * n + digV c) l < _
    refine Nat.lt_of_lt_of_le this ?_
    rw [List.length_cons, Nat.pow_succ, Nat.mul_comm (10 ^ l.length) 10, ← Nat.mul_assoc]
    exact Nat.mul_le_mul_right _ (by omega)
/-- of two words of digits of one length the greater one is the greater number -/
theorem lex_val : ∀ (a b : List UInt8), a.length = b.length → a.all isDig = true → b.all isDig = true → ∀ n m, (n < m → valFrom n a < valFrom m b) ∧ (m < n → valFrom m b < valFrom n a) ∧ (n = m → (decide (a < b) = decide (valFrom n a < valFrom m b)))
  | [], [], _, _, _, n, m => ⟨fun h => h, fun h => h, fun h => by subst h; simp [valFrom]⟩
  | c :: a, d :: b, hl, ha, hb, n, m => by
    simp only [List.length_cons] at hl
    have hl' : a.length = b.length := by omega
    simp only [List.all_cons, Bool.and_eq_true] at ha hb
    have dc : ∀ c : UInt8, isDig c = true → 48 ≤ c.toNat ∧ c.toNat ≤ 57 := by
      intro c h1
      unfold isDig at h1
      rw [Bool.and_eq_true, decide_eq_true_eq, decide_eq_true_eq, UInt8.le_iff_toNat_le, UInt8.le_iff_toNat_le] at h1
      exact h1
    have hc := dc c ha.1
    have hd := dc d hb.1
    have ih := lex_val a b hl' ha.2 hb.2
    refine ⟨fun h => (ih (10 * n + digV c) (10 * m + digV d)).1 (by unfold digV; omega), fun h => (ih (10 * n + digV c) (10 * m + digV d)).2.1 (by unfold digV; omega), fun h => ?_⟩
    subst h
    show decide (c :: a < d :: b) = decide (valFrom (10 * n + digV c) a < valFrom (10 * n + digV d) b)
    rcases Nat.lt_trichotomy c.toNat d.toNat with h | h | h
    · have h1 := (ih (10 * n + digV c) (10 * n + digV d)).1 (by unfold digV; omega)
      have h2 : c < d := UInt8.lt_iff_toNat_lt.2 h
      rw [decide_eq_true h1, decide_eq_true (List.cons_lt_cons_iff.2 (.inl h2))]
    · have hcd : c = d := UInt8.toNat_inj.1 h
      subst hcd
      rw [← (ih (10 * n + digV c) (10 * n + digV c)).2.2 rfl]
      have : (c :: a < c :: b) ↔ a < b := by rw [List.cons_lt_cons_iff]; simp [UInt8.lt_irrefl]
      rw [decide_eq_decide]; exact this
    · have h1 := (ih (10 * n + digV c) (10 * n + digV d)).2.1 (by unfold digV; omega)
      have h2 : ¬ (c :: a < d :: b) := by
        rw [List.cons_lt_cons_iff]
        rintro (h3 | ⟨h3, _⟩)
        · have := UInt8.lt_iff_toNat_lt.1 h3; omega
        · subst h3; omega
      rw [decide_eq_false h2, decide_eq_false (by omega)]
end Go.Proofs.Ytafbjkbdfdeacaa
