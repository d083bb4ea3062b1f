/- What rows come of edges, sorted by the reference. No program in sight. -/
import Derived.Test.YtlgnpogmgpgdaaaMergeCanon
namespace Go.Proofs.Ytlgnpogmgpgdaaa
set_option linter.unusedSimpArgs false
set_option linter.unusedVariables false
set_option maxRecDepth 100000
open Go.RowKit

theorem belowE_iff (x y : EdgeD) : belowE x y = true ↔ x.1 < y.1 ∨ (x.1 = y.1 ∧ (x.2.1 < y.2.1 ∨ (x.2.1 = y.2.1 ∧ x.2.2 < y.2.2))) := by
  unfold belowE
  split
  · split
    · rw [decide_eq_true_eq]; omega
    · rw [decide_eq_true_eq]; omega
  · rw [decide_eq_true_eq]; omega
theorem belowE_no (x y : EdgeD) : belowE x y = false ↔ ¬ (x.1 < y.1 ∨ (x.1 = y.1 ∧ (x.2.1 < y.2.1 ∨ (x.2.1 = y.2.1 ∧ x.2.2 < y.2.2)))) := by
  rw [← belowE_iff]; simp
def sortedE (s : List EdgeD) : Prop := s.Pairwise (fun a b => belowE b a = false)
theorem mem_tw {α : Type} (p : α → Bool) : ∀ (l : List α) (e : α), e ∈ l.takeWhile p → p e = true
  | [], e, h => by simp at h
  | x :: l, e, h => by
    by_cases hx : p x = true
    · rw [List.takeWhile_cons_of_pos hx] at h
      rcases List.mem_cons.1 h with e1 | h
      · rw [e1]; exact hx
      · exact mem_tw p l e h
    · rw [List.takeWhile_cons_of_neg hx] at h; simp at h
theorem head_dw {α : Type} (p : α → Bool) : ∀ (l : List α) (e : α) (b : List α), l.dropWhile p = e :: b → p e = false
  | [], e, b, h => by simp at h
  | x :: l, e, b, h => by
    by_cases hx : p x = true
    · rw [List.dropWhile_cons_of_pos hx] at h
      exact head_dw p l e b h
    · rw [List.dropWhile_cons_of_neg hx] at h
      simp only [List.cons.injEq] at h
      rw [← h.1]; simpa using hx
theorem insR_parts (x : EdgeD) (out : List EdgeD) (h : sortedE out) : ∃ a b, out = a ++ b ∧ insR x out = a ++ [x] ++ b ∧ (∀ e ∈ a, belowE x e = false) ∧ (∀ e ∈ b, belowE e x = false) := by
  refine ⟨_, _, (List.takeWhile_append_dropWhile (p := fun e => !belowE x e) (l := out)).symm, rfl, fun e he => ?_, fun e he => ?_⟩
  · have := mem_tw (fun e => !belowE x e) out e he
    simpa using this
  · have h1 : sortedE (out.takeWhile (fun e => !belowE x e) ++ out.dropWhile (fun e => !belowE x e)) := by rw [List.takeWhile_append_dropWhile]; exact h
    have h2 := (List.pairwise_append.1 h1).2.1
    cases hb : out.dropWhile (fun e => !belowE x e) with
    | nil => rw [hb] at he; simp at he
    | cons e0 b =>
      have h3 : (!belowE x e0) = false := head_dw (fun e => !belowE x e) out e0 b hb
      have h3 : belowE x e0 = true := by simpa using h3
      rw [hb] at h2 he
      rw [List.pairwise_cons] at h2
      rw [belowE_iff] at h3
      rw [belowE_no]
      rcases List.mem_cons.1 he with rfl | he
      · omega
      · have h4 := h2.1 e he
        rw [belowE_no] at h4
        omega
theorem insR_sorted (x : EdgeD) (out : List EdgeD) (h : sortedE out) : sortedE (insR x out) := by
  obtain ⟨a, b, ho, hi, h1, h2⟩ := insR_parts x out h
  rw [hi]
  rw [ho] at h
  obtain ⟨g1, g2, g3⟩ := List.pairwise_append.1 h
  unfold sortedE
  rw [List.append_assoc, List.pairwise_append]
  refine ⟨g1, ?_, fun e he f hf => ?_⟩
  · rw [List.singleton_append, List.pairwise_cons]
    exact ⟨h2, g2⟩
  · rw [List.singleton_append] at hf
    rcases List.mem_cons.1 hf with rfl | hf
    · exact h1 e he
    · exact g3 e he f hf
theorem insR_mem (x : EdgeD) (out : List EdgeD) (y : EdgeD) : y ∈ insR x out ↔ y = x ∨ y ∈ out := by
  have h : out = out.takeWhile (fun e => !belowE x e) ++ out.dropWhile (fun e => !belowE x e) := List.takeWhile_append_dropWhile.symm
  unfold insR
  conv => rhs; rw [h]
  simp only [List.mem_append, List.mem_singleton]
  constructor
  · rintro ((h | h) | h)
    · exact .inr (.inl h)
    · exact .inl h
    · exact .inr (.inr h)
  · rintro (h | h | h)
    · exact .inl (.inr h)
    · exact .inl (.inl h)
    · exact .inr h
theorem insR_wt (x : EdgeD) (out : List EdgeD) (f t : Nat) : wt (insR x out) f t = wt out f t + wt [x] f t := by
  have h : out = out.takeWhile (fun e => !belowE x e) ++ out.dropWhile (fun e => !belowE x e) := List.takeWhile_append_dropWhile.symm
  unfold insR
  conv => rhs; rw [h]
  rw [wt_append, wt_append, wt_append]; omega
theorem insR_outw (x : EdgeD) (out : List EdgeD) (f : Nat) : outw (insR x out) f = outw out f + outw [x] f := by
  have h : out = out.takeWhile (fun e => !belowE x e) ++ out.dropWhile (fun e => !belowE x e) := List.takeWhile_append_dropWhile.symm
  unfold insR
  conv => rhs; rw [h]
  rw [outw_append, outw_append, outw_append]; omega
theorem sortR_snoc (l : List EdgeD) (x : EdgeD) : sortR (l ++ [x]) = insR x (sortR l) := by unfold sortR; rw [List.foldl_append]; rfl
theorem sortR_all (l : List EdgeD) : sortedE (sortR l) ∧ (∀ y, y ∈ sortR l ↔ y ∈ l) ∧ (∀ f t, wt (sortR l) f t = wt l f t) ∧ (∀ f, outw (sortR l) f = outw l f) := by
  generalize hn : l.length = n
  induction n generalizing l with
  | zero =>
    obtain rfl := List.eq_nil_of_length_eq_zero hn
    exact ⟨.nil, fun y => Iff.rfl, fun _ _ => rfl, fun _ => rfl⟩
  | succ n ih =>
    rcases List.eq_nil_or_concat l with rfl | ⟨l', x, h⟩
    · simp at hn
    · rw [List.concat_eq_append] at h
      subst h
      obtain ⟨h1, h2, h3, h4⟩ := ih l' (by simpa using hn)
      rw [sortR_snoc]
      refine ⟨insR_sorted x _ h1, fun y => ?_, fun f t => ?_, fun f => ?_⟩
      · rw [insR_mem, h2]; simp [or_comm]
      · rw [insR_wt, h3, wt_append]
      · rw [insR_outw, h4, outw_append]
theorem keyE_key3 {x : EdgeD} (h : okE x) : keyE (key3 x.1 x.2.1 x.2.2) = x := by
  unfold keyE
  rw [if_pos (show (key3 x.1 x.2.1 x.2.2).length = 12 from rfl), keyOf_key3 _ _ _ h.1 h.2.1 h.2.2]
theorem keysM_cons (x : EdgeD) (q : List EdgeD) : keysM (x :: q) = key3 x.1 x.2.1 x.2.2 :: keysM q := rfl
theorem hasR_le {R : List RowD} {p : List EdgeD} (hs : CanS R p) (x : EdgeD) : hasR R x ≤ outw p x.1 := by
  rcases List.eq_nil_or_concat R with rfl | ⟨A, r, h⟩
  · simp [hasR]
  · rw [List.concat_eq_append] at h
    subst h
    rw [hasR_of]
    split
    · rename_i he; rw [(hs.sums r (by simp)).1, he]; exact Nat.le_refl _
    · omega
theorem rows_go : ∀ (q p : List EdgeD) (R : List RowD) (lastE : Option EdgeD) (rest : List (List UInt8)), CanS R p → (∀ x ∈ q, domR R x) → (∀ x ∈ q, isBelow lastE x = false) → (∀ x ∈ q, okE x ∧ x.2.2 ≠ 0) → sortedE q →
    (rrowsGo R lastE (keysM q ++ rest) = ([], 10) ∧ ∃ x ∈ q, 2147483647 < outw (p ++ q) x.1) ∨ ∃ R' e', rrowsGo R lastE (keysM q ++ rest) = rrowsGo R' e' rest ∧ CanS R' (p ++ q) ∧ (q = [] → e' = lastE) ∧ (∀ z, q.getLast? = some z → e' = some z)
  | [], p, R, lastE, rest, hs, _, _, _, _ => .inr ⟨R, lastE, rfl, by simpa using hs, fun _ => rfl, fun z h => by simp at h⟩
  | x :: q, p, R, lastE, rest, hs, hd, hb, hok, hso => by
    unfold sortedE at hso
    rw [List.pairwise_cons] at hso
    obtain ⟨hx, hw⟩ := hok x (by simp)
    have hk := keyE_key3 hx
    have e1 : rrowsGo R lastE (keysM (x :: q) ++ rest) = if 2147483647 < hasR R x + x.2.2 then ([], 10) else rrowsGo (withR R x) (some x) (keysM q ++ rest) := by
      rw [keysM_cons, List.cons_append]
      conv => lhs; unfold rrowsGo
      rw [hk, if_neg (by rintro (h | h); exact h rfl; exact hw h), hb x (by simp), if_neg (by simp)]
    rw [e1]
    by_cases h3 : 2147483647 < hasR R x + x.2.2
    · rw [if_pos h3]
      refine .inl ⟨rfl, x, by simp, ?_⟩
      have h4 := hasR_le hs x
      have h5 : outw (p ++ x :: q) x.1 = outw p x.1 + x.2.2 + outw q x.1 := by
        rw [outw_append, show x :: q = [x] ++ q from rfl, outw_append, outw_one, if_pos rfl]; omega
      omega
    · rw [if_neg h3]
      obtain ⟨h4, h5⟩ := hs.step (hd x (by simp)) hw (by omega)
      have ih := rows_go q (p ++ [x]) (withR R x) (some x) rest h4 (fun y hy => h5.mono (leE_of (hso.1 y hy))) (fun y hy => hso.1 y hy) (fun y hy => hok y (by simp [hy])) hso.2
      rw [List.append_assoc, List.singleton_append] at ih
      rcases ih with ⟨h6, y, hy, h7⟩ | ⟨R', e', h6, h7, h8, h9⟩
      · exact .inl ⟨h6, y, by simp [hy], h7⟩
      · refine .inr ⟨R', e', h6, h7, by simp, fun z hz => ?_⟩
        cases q with
        | nil => simp at hz; rw [h8 rfl, hz]
        | cons y q => rw [List.getLast?_cons_cons] at hz; exact h9 z hz
/-- of edges with weights: the rows, or a vertex has too much -/
theorem rows_edges (l : List EdgeD) (hok : ∀ x ∈ l, okE x ∧ x.2.2 ≠ 0) :
    ((∃ x ∈ l, 2147483647 < outw l x.1) ∧ rowsOf (keysM (sortR l)) = ([], 10)) ∨
    ((∀ x ∈ l, outw l x.1 ≤ 2147483647) ∧ ∃ R, rowsOf (keysM (sortR l)) = (R, 0) ∧ canonR R ∧ reprR R (wt l) ∧ ∀ r ∈ R, sumA r.2 ≤ 2147483647) := by
  obtain ⟨h1, h2, h3, h4⟩ := sortR_all l
  have hg := rows_go (sortR l) [] [] none [] CanS.nil (fun x _ r hr => by simp at hr) (fun x _ => rfl) (fun x hx => hok x ((h2 x).1 hx)) h1
  simp only [List.append_nil, List.nil_append] at hg
  rw [← rrows_rows]
  unfold rrows
  rcases hg with ⟨h5, x, hx, h6⟩ | ⟨R, e', h5, h6, _, _⟩
  · exact .inl ⟨⟨x, (h2 x).1 hx, by rw [← h4]; exact h6⟩, h5⟩
  · refine .inr ⟨fun x hx => ?_, R, by rw [h5]; rfl, h6.can, fun f t v => by rw [h6.rep f t v, h3], fun r hr => (h6.sums r hr).2⟩
    obtain ⟨r, hr, he⟩ := h6.all x ((h2 x).2 hx)
    have := h6.sums r hr
    rw [← h4, ← he, ← this.1]; exact this.2
end Go.Proofs.Ytlgnpogmgpgdaaa
