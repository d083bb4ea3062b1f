/- The lines that are printed for paths, read again. No program in sight. -/
import Derived.Test.YtbleacpdobjdaaaCorpRead
import Derived.Test.YtbleacpdobjdaaaCorpPrint
import Derived.Test.YtbleacpdobjdaaaCorpRefs
import Derived.Test.YtbleacpdobjdaaaCorpGapsPlain
namespace Go.Proofs.Ytbleacpdobjdaaa
set_option linter.unusedSimpArgs false
set_option linter.unusedVariables false

theorem dig_plain {d : UInt8} (h : isDig d = true) : isSp d = false ∧ (d == 10) = false := by
  have h2 := (isDig_iff d).1 h
  constructor
  · unfold isSp
    rw [Bool.or_eq_false_iff, beq_eq_false_iff_ne, beq_eq_false_iff_ne]
    constructor <;> (rintro rfl; revert h2; decide)
  · rw [beq_eq_false_iff_ne]
    rintro rfl; revert h2; decide
theorem digits_plain (n : Nat) : ∀ d ∈ digits n, isSp d = false ∧ (d == 10) = false := fun d hd => dig_plain (List.all_eq_true.1 (digits_all n) d hd)
def body28 (p : PathD) : List UInt8 := digits p.1 ++ vertsB p.2
theorem vertsB_cons (v : Nat) (l : List Nat) : vertsB (v :: l) = 32 :: (digits v ++ vertsB l) := by simp [vertsB]
theorem vertsB_nolf (l : List Nat) : ∀ d ∈ vertsB l, (d == 10) = false := by
  induction l with
  | nil => simp [vertsB]
  | cons v l ih =>
    intro d hd
    rw [vertsB_cons] at hd
    rcases List.mem_cons.1 hd with rfl | hd
    · decide
    · rcases List.mem_append.1 hd with h | h
      · exact (digits_plain v d h).2
      · exact ih d h
theorem lines_printP : ∀ (l : List PathD), lines (printP l) = l.map body28
  | [] => by simp [printP, lines, linesGo]
  | p :: l => by
    have h : printP (p :: l) = body28 p ++ 10 :: printP l := by simp [printP, pathLine, body28]
    rw [h, lines_cut _ _ (fun d hd => ?_), lines_printP l, List.map_cons]
    rcases List.mem_append.1 hd with h | h
    · exact (digits_plain p.1 d h).2
    · exact vertsB_nolf p.2 d h
theorem words_verts : ∀ (vs : List Nat) (v : Nat), words (digits v ++ vertsB vs) = digits v :: vs.map digits
  | [], v => by
    rw [show vertsB [] = [] from rfl, List.append_nil, words_last _ (fun d hd => (digits_plain v d hd).1), if_neg (digits_ne v)]; rfl
  | u :: vs, v => by
    rw [vertsB_cons, words_cut _ _ 32 (by decide) (fun d hd => (digits_plain v d hd).1), if_neg (digits_ne v), words_verts vs u]; rfl
theorem numsGo_digits : ∀ (vs acc : List Nat), (∀ v ∈ vs, v < 4294967296) → numsGo acc (vs.map digits) = (acc ++ vs, 0)
  | [], acc, _ => by simp [numsGo]
  | v :: vs, acc, h => by
    have hv := h v (by simp)
    have hn : num (digits v) 4294967295 = (v, 0) := by rw [num_digits, if_neg (by omega)]
    rw [List.map_cons, numsGo_ok (by rw [hn]), hn, numsGo_digits vs _ (fun u hu => h u (by simp [hu]))]
    simp
theorem nums_body (p : PathD) (h : okData p) : words (body28 p) = digits p.1 :: p.2.map digits ∧ nums (words (body28 p)) = (p.1 :: p.2, 0) := by
  have hw : words (body28 p) = (p.1 :: p.2).map digits := words_verts p.2 p.1
  refine ⟨hw, ?_⟩
  rw [hw]
  unfold nums
  rw [numsGo_digits]
  · rfl
  · intro v hv
    rcases List.mem_cons.1 hv with rfl | hv
    · exact h.1
    · exact h.2.1 v hv
theorem line_body (out : List PathD) (p : PathD) (h : okData p) : lineErr out (body28 p) = (if p.2 = [] then 12 else if notAbove out p.1 = true then 13 else 0) ∧ pathOf (body28 p) = p := by
  obtain ⟨h1, h2⟩ := nums_body p h
  refine ⟨?_, by unfold pathOf; rw [h2]; rfl⟩
  unfold lineErr
  rw [h2, h1]
  by_cases he : p.2 = []
  · simp [he]
  · have : p.2.length ≠ 0 := fun e => he (List.eq_nil_of_length_eq_zero e)
    simp only [List.length_cons, List.length_map, List.headD_cons]
    rw [if_neg (by omega), if_neg (by simp), if_neg he]
    by_cases hn : notAbove out p.1 = true <;> simp [hn]
theorem read_printed : ∀ (l out : List PathD) (k : Nat), (∀ p ∈ l, okData p) →
    (mayFrom (out.getLast?.map (·.1)) l ∧ readGo out k (l.map body28) = (out ++ l, 0, 0)) ∨
    (¬ mayFrom (out.getLast?.map (·.1)) l ∧ ∃ n e, readGo out k (l.map body28) = ([], n, e) ∧ k + 1 ≤ n ∧ n ≤ k + l.length ∧ (e = 12 ∨ e = 13))
  | [], out, k, _ => .inl ⟨trivial, by simp [readGo]⟩
  | p :: l, out, k, h => by
    obtain ⟨h1, h2⟩ := line_body out p (h p (by simp))
    rw [List.map_cons]
    by_cases he : p.2 = []
    · rw [if_pos he] at h1
      refine .inr ⟨fun hm => hm.1 he, k + 1, 12, by rw [readGo_bad (by omega), h1], by omega, by simp, .inl rfl⟩
    · rw [if_neg he] at h1
      by_cases hn : notAbove out p.1 = true
      · rw [if_pos hn] at h1
        refine .inr ⟨fun hm => ?_, k + 1, 13, by rw [readGo_bad (by omega), h1], by omega, by simp, .inr rfl⟩
        unfold notAbove at hn
        cases hl : out.getLast? with
        | none => rw [hl] at hn; simp at hn
        | some q =>
          rw [hl] at hn hm
          have := hm.2.1 q.1 rfl
          simp at hn
          omega
      · rw [if_neg hn] at h1
        rw [readGo_ok h1, h2]
        have hlast : (out ++ [p]).getLast?.map (·.1) = some p.1 := by simp
        have hlow : ∀ i, out.getLast?.map (·.1) = some i → i < p.1 := fun i hi => by
          unfold notAbove at hn
          cases hl : out.getLast? with
          | none => rw [hl] at hi; simp at hi
          | some q => rw [hl] at hn hi; simp at hn hi; omega
        rcases read_printed l (out ++ [p]) (k + 1) (fun q hq => h q (by simp [hq])) with ⟨a, b⟩ | ⟨a, n, e, b, c, d, f⟩
        · rw [hlast] at a
          exact .inl ⟨⟨he, hlow, a⟩, by rw [b]; simp⟩
        · rw [hlast] at a
          exact .inr ⟨fun hm => a hm.2.2, n, e, b, by omega, by simp; omega, f⟩
theorem mayP_tail {p : PathD} {l : List PathD} (h : MayP (p :: l)) : MayP l := fun j hj => okAt_tail (h (j + 1) (by simp; omega)) hj
theorem from_may : ∀ (l : List PathD) (o : Option Nat), mayFrom o l → MayP l
  | [], _, _, j, hj => by simp at hj
  | p :: l, o, ⟨h1, h2, h3⟩, j, hj => by
    match j, hj with
    | 0, hj => exact ⟨hj, fun e => h1 (List.eq_nil_of_length_eq_zero (by simpa using e)), fun h0 => by omega⟩
    | j + 1, hj =>
      obtain ⟨hj2, h4, h5⟩ := from_may l (some p.1) h3 j (by simpa using hj)
      refine ⟨hj, by simpa using h4, fun _ => ?_⟩
      match j, hj2, h5 with
      | 0, hj2, _ =>
        match l, hj2, h3 with
        | q :: l, _, h3 => exact h3.2.1 p.1 rfl
      | j + 1, hj2, h5 => simpa using h5 (by omega)
theorem may_iff (l : List PathD) : MayP l ↔ mayFrom none l := ⟨fun h => may_from l none h (fun i p e => by cases e), from_may l none⟩
theorem read_print (l : List PathD) (h : ∀ p ∈ l, okData p) :
    (MayP l ∧ readL (lines (printP l)) = (l, 0, 0)) ∨ (¬ MayP l ∧ ∃ n e, readL (lines (printP l)) = ([], n, e) ∧ 1 ≤ n ∧ n ≤ l.length ∧ (e = 12 ∨ e = 13)) := by
  rw [lines_printP, may_iff]
  rcases read_printed l [] 0 h with ⟨a, b⟩ | ⟨a, n, e, b, c, d, f⟩
  · exact .inl ⟨a, b⟩
  · exact .inr ⟨a, n, e, b, by omega, by omega, f⟩
theorem digits_10 {v : Nat} (h : v < 4294967296) : (digits v).length ≤ 10 := digits_len v 10 (by omega) (by omega)
theorem vertsB_len : ∀ (l : List Nat), (∀ v ∈ l, v < 4294967296) → (vertsB l).length ≤ 11 * l.length
  | [], _ => by simp [vertsB]
  | v :: l, h => by
    have := vertsB_len l (fun u hu => h u (by simp [hu]))
    have := digits_10 (h v (by simp))
    rw [vertsB_cons]
    simp; omega
theorem printP_len : ∀ (l : List PathD), (∀ p ∈ l, okData p) → (printP l).length ≤ 671 * l.length
  | [], _ => by simp [printP]
  | p :: l, h => by
    have h1 := printP_len l (fun u hu => h u (by simp [hu]))
    obtain ⟨h2, h3, h4⟩ := h p (by simp)
    have h5 := vertsB_len p.2 h3
    have h6 := digits_10 h2
    have e : printP (p :: l) = pathLine p ++ printP l := by simp [printP]
    rw [e]
    simp [pathLine]; omega
end Go.Proofs.Ytbleacpdobjdaaa
