/- An edge whose weight is split comes to the same rows. No program in sight. -/
import Derived.Test.YtafbjkbdfdeacaaMergeCanon2
namespace Go.Proofs.Ytafbjkbdfdeacaa
set_option linter.unusedSimpArgs false
set_option linter.unusedVariables false
open Go.RowKit

theorem sortR_add (μ : List EdgeD → Nat) (h : ∀ l m, μ (l ++ m) = μ l + μ m) (l : List EdgeD) : μ (sortR l) = μ l := by
  generalize hn : l.length = n
  induction n generalizing l with
  | zero => obtain rfl := List.eq_nil_of_length_eq_zero hn; rfl
  | succ n ih =>
    rcases List.eq_nil_or_concat l with rfl | ⟨l', x, hx⟩
    · simp at hn
    · rw [List.concat_eq_append] at hx
      subst hx
      have h1 := ih l' (by simpa using hn)
      rw [sortR_snoc, h, ← h1]
      have h2 : sortR l' = (sortR l').takeWhile (fun e => !belowE x e) ++ (sortR l').dropWhile (fun e => !belowE x e) := List.takeWhile_append_dropWhile.symm
      unfold insR
      conv => rhs; lhs; rw [h2]
      rw [h, h, h]; omega
def lexB (z : EdgeD) (e : EdgeD) : Bool := decide (e.1 < z.1 ∨ (e.1 = z.1 ∧ e.2.1 < z.2.1))
/-- the first edge without a weight -/
theorem zero_rows (l : List EdgeD) (hok : ∀ x ∈ l, okE x) (z : EdgeD) (hz : z ∈ l) (hz0 : z.2.2 = 0) (hmin : ∀ y ∈ l, y.2.2 = 0 → lexB z y = false) :
    ((∃ x ∈ l.filter (lexB z), 2147483647 < outw (l.filter (lexB z)) x.1) ∧ rowsOf (keysM (sortR l)) = ([], 10)) ∨ ((∀ x ∈ l.filter (lexB z), outw (l.filter (lexB z)) x.1 ≤ 2147483647) ∧ rowsOf (keysM (sortR l)) = ([], 3)) := by
  obtain ⟨h1, h2, _, _⟩ := sortR_all l
  have hso := h1
  have hou : ∀ f, outw ((sortR l).filter (lexB z)) f = outw (l.filter (lexB z)) f := fun f => sortR_add (fun l => outw (l.filter (lexB z)) f) (fun a b => by simp only [List.filter_append, outw_append]) l
  have hmem : ∀ x, x ∈ (sortR l).filter (lexB z) ↔ x ∈ l.filter (lexB z) := fun x => by rw [List.mem_filter, List.mem_filter, h2]
  have hzs : z ∈ sortR l := (h2 z).2 hz
  have hok' : ∀ x ∈ sortR l, okE x := fun x hx => hok x ((h2 x).1 hx)
  have hmin' : ∀ y ∈ sortR l, y.2.2 = 0 → lexB z y = false := fun y hy => hmin y ((h2 y).1 hy)
  generalize sortR l = s at *
  have hsp : s = s.takeWhile (lexB z) ++ s.dropWhile (lexB z) := List.takeWhile_append_dropWhile.symm
  have ha : ∀ e ∈ s.takeWhile (lexB z), lexB z e = true := fun e he => mem_tw _ _ _ he
  have hhd := head_dw (lexB z) s
  generalize s.takeWhile (lexB z) = a at *
  generalize s.dropWhile (lexB z) = b at *
  subst hsp
  obtain ⟨g1, g2, g3⟩ := List.pairwise_append.1 hso
  have hzb : z ∈ b := by
    rcases List.mem_append.1 hzs with h | h
    · have := ha z h; simp [lexB] at this
    · exact h
  cases b with
  | nil => simp at hzb
  | cons b0 b =>
    have hb0 := hhd b0 b rfl
    rw [List.pairwise_cons] at g2
    have hb0z : belowE z b0 = false := by
      rcases List.mem_cons.1 hzb with rfl | h
      · rw [belowE_no]; omega
      · exact g2.1 z h
    rw [belowE_no] at hb0z
    have hlb : ¬ (b0.1 < z.1 ∨ (b0.1 = z.1 ∧ b0.2.1 < z.2.1)) := by simpa [lexB] using hb0
    have hw0 : b0.2.2 = 0 := by omega
    have hfil : (a ++ b0 :: b).filter (lexB z) = a := by
      rw [List.filter_append, List.filter_eq_self.2 ha]
      have : (b0 :: b).filter (lexB z) = [] := by
        rw [List.filter_eq_nil_iff]
        intro e he
        rcases List.mem_cons.1 he with rfl | h
        · simp [hb0]
        · have h4 := g2.1 e h
          rw [belowE_no] at h4
          simp only [lexB, decide_eq_true_eq]
          omega
      rw [this, List.append_nil]
    rw [hfil] at hou hmem
    have hg := rows_go a [] [] none (keysM (b0 :: b)) CanS.nil (fun x _ r hr => by simp at hr) (fun x _ => rfl) (fun x hx => ⟨hok' x (List.mem_append.2 (.inl hx)), fun h0 => by
      have := hmin' x (List.mem_append.2 (.inl hx)) h0
      rw [ha x hx] at this; cases this⟩) g1
    simp only [List.nil_append] at hg
    have hks : keysM (a ++ b0 :: b) = keysM a ++ keysM (b0 :: b) := by simp [keysM]
    rw [← rrows_rows]
    unfold rrows
    rw [hks]
    rcases hg with ⟨h5, x, hx, h6⟩ | ⟨R, e', h5, h6, _, _⟩
    · exact .inl ⟨⟨x, (hmem x).1 hx, by rw [← hou]; exact h6⟩, h5⟩
    · refine .inr ⟨fun x hx => ?_, ?_⟩
      · obtain ⟨r, hr, he⟩ := h6.all x ((hmem x).2 hx)
        have := h6.sums r hr
        rw [← hou, ← he, ← this.1]; exact this.2
      · rw [h5, keysM_cons]
        unfold rrowsGo
        rw [if_pos]
        right
        rw [keyE_key3 (hok' b0 (by simp))]
        exact hw0
theorem first_zero : ∀ (s : List EdgeD), (∃ y ∈ s, y.2.2 = 0) → ∃ z ∈ s, z.2.2 = 0 ∧ ∀ y ∈ s, y.2.2 = 0 → lexB z y = false := by
  intro s
  induction s with
  | nil => rintro ⟨y, hy, _⟩; simp at hy
  | cons x s ih =>
    rintro ⟨y, hy, hy0⟩
    by_cases hs : ∃ y ∈ s, y.2.2 = 0
    · obtain ⟨z, hz, hz0, hm⟩ := ih hs
      by_cases hx : x.2.2 = 0 ∧ lexB z x = true
      · refine ⟨x, by simp, hx.1, fun y hy h0 => ?_⟩
        rcases List.mem_cons.1 hy with rfl | h
        · simp [lexB]
        · have h1 := hm y h h0
          have h2 := hx.2
          simp only [lexB, decide_eq_false_iff_not, decide_eq_true_eq] at h1 h2 ⊢
          omega
      · refine ⟨z, by simp [hz], hz0, fun y hy h0 => ?_⟩
        rcases List.mem_cons.1 hy with rfl | h
        · cases hb : lexB z y with
          | false => rfl
          | true => exact absurd ⟨h0, hb⟩ hx
        · exact hm y h h0
    · rcases List.mem_cons.1 hy with rfl | h
      · refine ⟨y, by simp, hy0, fun u hu h0 => ?_⟩
        rcases List.mem_cons.1 hu with rfl | h
        · simp [lexB]
        · exact absurd ⟨u, h, h0⟩ hs
      · exact absurd ⟨y, h, hy0⟩ hs
theorem split_rows (A B : List EdgeD) (f t u v : Nat) (hu : 0 < u) (hv : 0 < v) (hok : ∀ x ∈ A ++ [(f, t, u + v)] ++ B, okE x) :
    rowsOf (keysM (sortR (A ++ [(f, t, u + v)] ++ B))) = rowsOf (keysM (sortR (A ++ [(f, t, u)] ++ B ++ [(f, t, v)]))) := by
  have he := hok (f, t, u + v) (by simp)
  have hok' : ∀ x ∈ A ++ [(f, t, u)] ++ B ++ [(f, t, v)], okE x := fun x hx => by
    simp only [List.mem_append, List.mem_singleton] at hx
    rcases hx with ((h | h) | h) | h
    · exact hok x (by simp [h])
    · subst h; exact ⟨he.1, he.2.1, by have := he.2.2; simp only at this ⊢; omega⟩
    · exact hok x (by simp [h])
    · subst h; exact ⟨he.1, he.2.1, by have := he.2.2; simp only at this ⊢; omega⟩
  have hout : ∀ (P : EdgeD → Bool), (∀ w w', P (f, t, w) = P (f, t, w')) → ∀ g, outw ((A ++ [(f, t, u)] ++ B ++ [(f, t, v)]).filter P) g = outw ((A ++ [(f, t, u + v)] ++ B).filter P) g := fun P hP g => by
    simp only [List.filter_append, outw_append]
    have h1 := hP u (u + v)
    have h2 := hP v (u + v)
    cases hp : P (f, t, u + v) <;> rw [hp] at h1 h2 <;> simp [h1, h2, hp, outw] <;> (try split) <;> omega
  have hver : ∀ (P : EdgeD → Bool), (∀ w w', P (f, t, w) = P (f, t, w')) → ∀ g, (∃ x ∈ (A ++ [(f, t, u)] ++ B ++ [(f, t, v)]).filter P, x.1 = g) ↔ (∃ x ∈ (A ++ [(f, t, u + v)] ++ B).filter P, x.1 = g) := fun P hP g => by
    have h1 := hP u (u + v)
    have h2 := hP v (u + v)
    simp only [List.mem_filter, List.mem_append, List.mem_singleton]
    constructor
    · rintro ⟨x, ⟨((h | h) | h) | h, hp⟩, rfl⟩
      · exact ⟨x, ⟨.inl (.inl h), hp⟩, rfl⟩
      · subst h; exact ⟨_, ⟨.inl (.inr rfl), h1 ▸ hp⟩, rfl⟩
      · exact ⟨x, ⟨.inr h, hp⟩, rfl⟩
      · subst h; exact ⟨_, ⟨.inl (.inr rfl), h2 ▸ hp⟩, rfl⟩
    · rintro ⟨x, ⟨(h | h) | h, hp⟩, rfl⟩
      · exact ⟨x, ⟨.inl (.inl (.inl h)), hp⟩, rfl⟩
      · subst h; exact ⟨(f, t, u), ⟨.inl (.inl (.inr rfl)), h1.trans hp⟩, rfl⟩
      · exact ⟨x, ⟨.inl (.inr h), hp⟩, rfl⟩
  by_cases hzz : ∃ y ∈ A ++ [(f, t, u + v)] ++ B, y.2.2 = 0
  · obtain ⟨z, hz, hz0, hm⟩ := first_zero _ hzz
    have hzero : ∀ y, y.2.2 = 0 → (y ∈ A ++ [(f, t, u + v)] ++ B ↔ y ∈ A ++ [(f, t, u)] ++ B ++ [(f, t, v)]) := fun y h0 => by
      simp only [List.mem_append, List.mem_singleton]
      have n1 : y ≠ (f, t, u + v) := fun e => by rw [e] at h0; simp only at h0; omega
      have n2 : y ≠ (f, t, u) := fun e => by rw [e] at h0; simp only at h0; omega
      have n3 : y ≠ (f, t, v) := fun e => by rw [e] at h0; simp only at h0; omega
      simp [n1, n2, n3]
    have hP : ∀ w w', lexB z (f, t, w) = lexB z (f, t, w') := fun _ _ => rfl
    have r1 := zero_rows _ hok z hz hz0 hm
    have r2 := zero_rows _ hok' z ((hzero z hz0).1 hz) hz0 (fun y hy h0 => hm y ((hzero y h0).2 hy) h0)
    rcases r1 with ⟨⟨x, hx, h1⟩, r1⟩ | ⟨h1, r1⟩
    · rcases r2 with ⟨_, r2⟩ | ⟨h2, r2⟩
      · rw [r1, r2]
      · obtain ⟨y, hy, he⟩ := (hver _ hP x.1).2 ⟨x, hx, rfl⟩
        have h3 := h2 y hy
        rw [hout _ hP, he] at h3; omega
    · rcases r2 with ⟨⟨x, hx, h2⟩, r2⟩ | ⟨h2, r2⟩
      · obtain ⟨y, hy, he⟩ := (hver _ hP x.1).1 ⟨x, hx, rfl⟩
        have h3 := h1 y hy
        rw [hout _ hP] at h2
        rw [he] at h3; omega
      · rw [r1, r2]
  · have hT : ∀ (l : List EdgeD), l.filter (fun _ => true) = l := fun l => by simp
    have hP : ∀ w w' : Nat, (fun _ : EdgeD => true) (f, t, w) = (fun _ : EdgeD => true) (f, t, w') := fun _ _ => rfl
    have ho := hout (fun _ => true) hP
    have hv' := hver (fun _ => true) hP
    simp only [hT] at ho hv'
    have hwt : wt (A ++ [(f, t, u)] ++ B ++ [(f, t, v)]) = wt (A ++ [(f, t, u + v)] ++ B) := by
      funext g s
      simp only [wt_append, wt_one]
      split <;> omega
    have r1 := rows_edges (A ++ [(f, t, u + v)] ++ B) (fun x hx => ⟨hok x hx, fun h0 => hzz ⟨x, hx, h0⟩⟩)
    have r2 := rows_edges (A ++ [(f, t, u)] ++ B ++ [(f, t, v)]) (fun x hx => ⟨hok' x hx, fun h0 => by
      simp only [List.mem_append, List.mem_singleton] at hx
      rcases hx with ((h | h) | h) | h
      · exact hzz ⟨x, by simp [h], h0⟩
      · rw [h] at h0; simp only at h0; omega
      · exact hzz ⟨x, by simp [h], h0⟩
      · rw [h] at h0; simp only at h0; omega⟩)
    rcases r1 with ⟨⟨x, hx, h1⟩, r1⟩ | ⟨h1, R, r1, c1, p1, s1⟩
    · rcases r2 with ⟨_, r2⟩ | ⟨h2, R', r2, c2, p2, s2⟩
      · rw [r1, r2]
      · obtain ⟨y, hy, he⟩ := (hv' x.1).2 ⟨x, hx, rfl⟩
        have h3 := h2 y hy
        rw [ho, he] at h3; omega
    · rcases r2 with ⟨⟨x, hx, h2⟩, r2⟩ | ⟨h2, R', r2, c2, p2, s2⟩
      · obtain ⟨y, hy, he⟩ := (hv' x.1).1 ⟨x, hx, rfl⟩
        have h3 := h1 y hy
        rw [ho] at h2
        rw [he] at h3; omega
      · rw [r1, r2]
        rw [hwt] at p2
        rw [canon_unique c1 c2 p1 p2]
end Go.Proofs.Ytafbjkbdfdeacaa
