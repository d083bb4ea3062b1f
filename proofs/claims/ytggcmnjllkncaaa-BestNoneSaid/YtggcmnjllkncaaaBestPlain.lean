/- The best visits: which of them are kept. No program in sight. -/
import Derived.Test.YtggcmnjllkncaaaBase
namespace Go.Proofs.Ytggcmnjllkncaaa
set_option linter.unusedSimpArgs false
set_option linter.unusedVariables false
set_option maxRecDepth 100000

/-- source, vertex, count -/
abbrev VisD := Nat × Nat × Nat
def okV (x : VisD) : Prop := x.1 < 4294967296 ∧ x.2.1 < 4294967296 ∧ x.2.2 < 18446744073709551616
/-- is a visit better than another one? (by count, by vertex, by source) -/
def betV (a b : VisD) : Bool := decide (b.2.2 < a.2.2 ∨ (a.2.2 = b.2.2 ∧ (a.2.1 < b.2.1 ∨ (a.2.1 = b.2.1 ∧ a.1 < b.1))))
theorem betV_iff (a b : VisD) : betV a b = true ↔ (b.2.2 < a.2.2 ∨ (a.2.2 = b.2.2 ∧ (a.2.1 < b.2.1 ∨ (a.2.1 = b.2.1 ∧ a.1 < b.1)))) := by unfold betV; simp only [decide_eq_true_eq]
theorem betV_irr (a : VisD) : betV a a = false := by
  rw [← Bool.not_eq_true, betV_iff]; omega
theorem betV_trans {a b c : VisD} (h : betV a b = true) (k : betV b c = true) : betV a c = true := by
  rw [betV_iff] at *; omega
theorem betV_asym {a b : VisD} (h : betV a b = true) : betV b a = false := by
  rw [← Bool.not_eq_true, betV_iff]; rw [betV_iff] at h; omega
theorem betV_anti {a b : VisD} (h : betV a b = false) (k : betV b a = false) : a = b := by
  rw [← Bool.not_eq_true, betV_iff] at h k
  obtain ⟨a1, a2, a3⟩ := a
  obtain ⟨b1, b2, b3⟩ := b
  simp only at h k
  have e1 : a3 = b3 := by omega
  have e2 : a2 = b2 := by omega
  have e3 : a1 = b1 := by omega
  rw [e1, e2, e3]
theorem betV_ntrans {a b c : VisD} (h : betV a b = false) (k : betV b c = false) : betV a c = false := by
  rw [← Bool.not_eq_true, betV_iff] at *; omega
/-- of visits of one source the source is no matter -/
def betR (a b : VisD) : Bool := decide (b.2.2 < a.2.2 ∨ (a.2.2 = b.2.2 ∧ a.2.1 < b.2.1))
theorem betR_same {a b : VisD} (h : a.1 = b.1) : betR a b = betV a b := by
  unfold betR betV
  rw [Bool.eq_iff_iff]
  simp only [decide_eq_true_eq]
  omega
/-! ### sorted lists -/
def srtV (l : List VisD) : Prop := l.Pairwise (fun a b => betV b a = false)
theorem srt_one {l m : List VisD} (hp : l.Perm m) (hl : srtV l) (hm : srtV m) : l = m := by
  induction l generalizing m with
  | nil => exact (List.nil_perm.1 hp).symm
  | cons x l ih =>
    cases m with
    | nil => exact absurd hp.length_eq (by simp)
    | cons y m =>
      obtain ⟨h1, h2⟩ := List.pairwise_cons.1 hl
      obtain ⟨h3, h4⟩ := List.pairwise_cons.1 hm
      have e : x = y := by
        have hx : x ∈ y :: m := hp.mem_iff.1 (List.mem_cons_self ..)
        have hy : y ∈ x :: l := hp.mem_iff.2 (List.mem_cons_self ..)
        rcases List.mem_cons.1 hx with rfl | hx
        · rfl
        · rcases List.mem_cons.1 hy with rfl | hy
          · rfl
          · exact betV_anti (h3 x hx) (h1 y hy)
      subst e
      rw [ih (List.Perm.cons_inv hp) h2 h4]
/-- put where it belongs, behind its equals -/
def insV (x : VisD) (l : List VisD) : List VisD := l.takeWhile (fun y => !betV x y) ++ [x] ++ l.dropWhile (fun y => !betV x y)
def sortV (l : List VisD) : List VisD := l.foldl (fun out x => insV x out) []
theorem insV_perm (x : VisD) (l : List VisD) : (insV x l).Perm (x :: l) := by
  unfold insV
  rw [List.append_assoc, List.singleton_append]
  refine List.perm_middle.trans (.cons x ?_)
  rw [List.takeWhile_append_dropWhile]
theorem insV_cons_no {x y : VisD} {l : List VisD} (h : betV x y = false) : insV x (y :: l) = y :: insV x l := by
  unfold insV
  rw [List.takeWhile_cons_of_pos (by simp [h]), List.dropWhile_cons_of_pos (by simp [h])]
  simp
theorem insV_cons_yes {x y : VisD} {l : List VisD} (h : betV x y = true) : insV x (y :: l) = x :: y :: l := by
  unfold insV
  rw [List.takeWhile_cons_of_neg (by simp [h]), List.dropWhile_cons_of_neg (by simp [h])]
  simp
theorem insV_srt (x : VisD) (l : List VisD) (h : srtV l) : srtV (insV x l) := by
  induction l with
  | nil => exact List.pairwise_singleton _ _
  | cons y l ih =>
    obtain ⟨h1, h2⟩ := List.pairwise_cons.1 h
    cases hb : betV x y with
    | true =>
      rw [insV_cons_yes hb]
      refine List.pairwise_cons.2 ⟨fun z hz => ?_, h⟩
      rcases List.mem_cons.1 hz with rfl | hz
      · exact betV_asym hb
      · rw [← Bool.not_eq_true]
        intro hc
        have := h1 z hz
        rw [betV_trans hc hb] at this; cases this
    | false =>
      rw [insV_cons_no hb]
      refine List.pairwise_cons.2 ⟨fun z hz => ?_, ih h2⟩
      rcases List.mem_cons.1 ((insV_perm x l).mem_iff.1 hz) with rfl | hz
      · exact hb
      · exact h1 z hz
theorem sortV_snoc (l : List VisD) (x : VisD) : sortV (l ++ [x]) = insV x (sortV l) := by unfold sortV; rw [List.foldl_append]; rfl
theorem sortV_all (l : List VisD) : srtV (sortV l) ∧ (sortV l).Perm l := by
  have h : ∀ (l out : List VisD), srtV out → srtV (l.foldl (fun out x => insV x out) out) ∧ (l.foldl (fun out x => insV x out) out).Perm (l ++ out) := by
    intro l
    induction l with
    | nil => intro out ho; exact ⟨ho, .refl _⟩
    | cons x l ih =>
      intro out ho
      rw [List.foldl_cons]
      obtain ⟨h1, h2⟩ := ih _ (insV_srt x out ho)
      exact ⟨h1, h2.trans (((insV_perm x out).append_left l).trans (by rw [List.cons_append]; exact List.perm_middle))⟩
  have := h l [] .nil
  rw [List.append_nil] at this
  exact this
theorem sortV_perm {l m : List VisD} (h : l.Perm m) : sortV l = sortV m := srt_one ((sortV_all l).2.trans (h.trans (sortV_all m).2.symm)) (sortV_all l).1 (sortV_all m).1
/-- the best ones -/
def bestL (l : List VisD) (most : Nat) : List VisD := (sortV l).take most
theorem bestL_srt (l : List VisD) (most : Nat) : srtV (bestL l most) := (sortV_all l).1.sublist (List.take_sublist _ _)
theorem bestL_len (l : List VisD) (most : Nat) : (bestL l most).length = min most l.length := by unfold bestL; rw [List.length_take, (sortV_all l).2.length_eq]
/-- one more, inserted within the first ones or behind them -/
theorem ins_take_out (x : VisD) : ∀ (T R : List VisD), (∀ y ∈ T, betV x y = false) → (insV x (T ++ R)).take T.length = T
  | [], R, _ => by simp
  | y :: T, R, h => by
    rw [List.cons_append, insV_cons_no (h y (by simp)), List.length_cons, List.take_succ_cons, ins_take_out x T R (fun z hz => h z (by simp [hz]))]
theorem ins_take_in (x r : VisD) : ∀ (A R : List VisD), betV x r = true → (insV x (A ++ r :: R)).take (A.length + 1) = insV x A
  | [], R, h => by rw [List.nil_append, insV_cons_yes h]; rfl
  | y :: A, R, h => by
    cases hb : betV x y with
    | true =>
      rw [List.cons_append, insV_cons_yes hb, insV_cons_yes hb, List.length_cons, List.take_succ_cons, List.take_succ_cons, List.take_left']
      rfl
    | false => rw [List.cons_append, insV_cons_no hb, insV_cons_no hb, List.length_cons, List.take_succ_cons, ins_take_in x r A R h]
/-- there is room -/
theorem put_room {l K : List VisD} {most : Nat} (x : VisD) (h : K.Perm (bestL l most)) (hlt : K.length < most) : (x :: K).Perm (bestL (l ++ [x]) most) := by
  have h1 := h.length_eq
  rw [bestL_len] at h1
  have h2 : (sortV l).length = l.length := (sortV_all l).2.length_eq
  have e1 : bestL l most = sortV l := List.take_of_length_le (by omega)
  have e2 : bestL (l ++ [x]) most = insV x (sortV l) := by
    unfold bestL
    rw [sortV_snoc]
    exact List.take_of_length_le (by rw [(insV_perm x _).length_eq, List.length_cons]; omega)
  rw [e2]
  rw [e1] at h
  exact (h.cons x).trans (insV_perm x _).symm
/-- it is full: r, the worst one, goes, or x isn't taken -/
theorem put_full {l K : List VisD} {most : Nat} (x r : VisD) (h : (r :: K).Perm (bestL l most)) (hlen : K.length + 1 = most) (hr : ∀ y ∈ K, betV r y = false) :
    (betV x r = true → (x :: K).Perm (bestL (l ++ [x]) most)) ∧ (betV x r = false → (r :: K).Perm (bestL (l ++ [x]) most)) := by
  have h1 := h.length_eq
  rw [bestL_len, List.length_cons] at h1
  have hT : bestL l most = bestL (r :: K) most := by
    have e : bestL (r :: K) most = sortV (r :: K) := List.take_of_length_le (by rw [(sortV_all _).2.length_eq, List.length_cons]; omega)
    rw [e]
    exact srt_one (h.symm.trans (sortV_all _).2.symm) (bestL_srt _ _) (sortV_all _).1
  obtain ⟨A, hA⟩ : ∃ A, bestL l most = A ++ [r] ∧ A.Perm K := by
    refine ⟨sortV K, ?_, (sortV_all K).2⟩
    refine srt_one (h.symm.trans ?_) (bestL_srt _ _) ?_
    · exact ((sortV_all K).2.symm.cons r).trans (List.perm_append_singleton r (sortV K)).symm
    · refine List.pairwise_append.2 ⟨(sortV_all K).1, List.pairwise_singleton _ _, fun a ha b hb => ?_⟩
      rw [List.mem_singleton.1 hb]
      exact hr a ((sortV_all K).2.mem_iff.1 ha)
  obtain ⟨hA1, hA2⟩ := hA
  have hAl : A.length + 1 = most := by rw [hA2.length_eq]; exact hlen
  have hs : sortV l = A ++ r :: (sortV l).drop most := by
    have := List.take_append_drop most (sortV l)
    rw [show (sortV l).take most = A ++ [r] from hA1] at this
    rw [List.append_assoc, List.singleton_append] at this
    exact this.symm
  have e2 : bestL (l ++ [x]) most = (insV x (A ++ r :: (sortV l).drop most)).take most := by
    unfold bestL
    rw [sortV_snoc, ← hs]
  rw [e2]
  refine ⟨fun hb => ?_, fun hb => ?_⟩
  · rw [← hAl, ins_take_in x r A _ hb]
    exact (hA2.symm.cons x).trans (insV_perm x A).symm
  · have h3 := ins_take_out x (A ++ [r]) ((sortV l).drop most) (fun y hy => by
      rcases List.mem_append.1 hy with hy | hy
      · exact betV_ntrans hb (hr y (hA2.mem_iff.1 hy))
      · rw [List.mem_singleton.1 hy]; exact hb)
    rw [List.append_assoc, List.singleton_append, List.length_append, List.length_singleton, hAl] at h3
    rw [h3, ← hA1]
    exact h
/-! ### heaps -/
/-- no one is worse than the one above it -/
def heapV (A : List VisD) : Prop := ∀ k (h : k < A.length), 1 ≤ k → betV (A[(k - 1) / 2]'(by omega)) A[k] = false
theorem heap_root {A : List VisD} (h : heapV A) : ∀ k (hk : k < A.length), betV (A[0]'(by omega)) A[k] = false := by
  intro k
  induction k using Nat.strongRecOn with
  | _ k ih =>
    intro hk
    by_cases h0 : k = 0
    · subst h0; exact betV_irr _
    · exact betV_ntrans (ih ((k - 1) / 2) (by omega) (by omega)) (h k hk (by omega))
end Go.Proofs.Ytggcmnjllkncaaa
