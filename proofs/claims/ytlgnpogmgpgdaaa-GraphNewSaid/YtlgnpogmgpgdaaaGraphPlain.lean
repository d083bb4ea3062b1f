/- Plain laws of graphs: which rows edges come to, a graph's edges, New's error, the vertices. No program in sight. -/
import Derived.Test.YtlgnpogmgpgdaaaGraphRef
import Derived.Test.YtlgnpogmgpgdaaaMergeCanon2
import Derived.Test.YtlgnpogmgpgdaaaStepPlain
namespace Go.Proofs.Ytlgnpogmgpgdaaa
set_option linter.unusedSimpArgs false
set_option linter.unusedVariables false
set_option maxRecDepth 100000
open Go.RowKit

theorem zeroW_no {l : List EdgeD} (h : zeroW l = false) : ∀ x ∈ l, x.2.2 ≠ 0 := fun x hx e => by
  have : zeroW l = true := by unfold zeroW; rw [List.any_eq_true]; exact ⟨x, hx, by simp [e]⟩
  rw [h] at this; cases this
theorem ofM_cases (l : List EdgeD) (hok : ∀ x ∈ l, okE x) :
    (zeroW l = true ∧ ofM l = ([], 9)) ∨ (zeroW l = false ∧ (∃ x ∈ l, 2147483647 < outw l x.1) ∧ ofM l = ([], 10)) ∨
    (zeroW l = false ∧ (∀ x ∈ l, outw l x.1 ≤ 2147483647) ∧ ∃ R, ofM l = (R, 0) ∧ canonR R ∧ reprR R (wt l) ∧ ∀ r ∈ R, sumA r.2 ≤ 2147483647) := by
  cases hz : zeroW l with
  | true => exact .inl ⟨rfl, by unfold ofM; rw [if_pos hz]⟩
  | false =>
    have h := rows_edges l (fun x hx => ⟨hok x hx, zeroW_no hz x hx⟩)
    have e : ofM l = rowsOf (keysM (sortR l)) := by unfold ofM; rw [if_neg (by rw [hz]; simp), rrows_rows]
    rw [e]
    rcases h with ⟨h1, h2⟩ | ⟨h1, h2⟩
    · exact .inr (.inl ⟨rfl, h1, h2⟩)
    · exact .inr (.inr ⟨rfl, h1, h2⟩)
theorem perm_sum {α : Type} (f : α → Nat) {l m : List α} (h : l.Perm m) : (l.map f).sum = (m.map f).sum := by
  induction h with
  | nil => rfl
  | cons x _ ih => simp [ih]
  | swap x y l => simp; omega
  | trans _ _ h1 h2 => rw [h1, h2]
theorem ofM_perm {l m : List EdgeD} (h : l.Perm m) (hok : ∀ x ∈ l, okE x) : ofM l = ofM m := by
  have hz : zeroW l = zeroW m := by
    unfold zeroW
    rw [Bool.eq_iff_iff, List.any_eq_true, List.any_eq_true]
    exact ⟨fun ⟨x, hx, e⟩ => ⟨x, h.mem_iff.1 hx, e⟩, fun ⟨x, hx, e⟩ => ⟨x, h.mem_iff.2 hx, e⟩⟩
  have hw : wt l = wt m := by funext f t; exact perm_sum _ h
  have ho : ∀ f, outw l f = outw m f := fun f => perm_sum _ h
  have hok2 : ∀ x ∈ m, okE x := fun x hx => hok x (h.mem_iff.2 hx)
  rcases ofM_cases l hok with ⟨h1, h2⟩ | ⟨h1, ⟨x, hx, hb⟩, h2⟩ | ⟨h1, hb, R, h2, h3, h4, _⟩
  · rcases ofM_cases m hok2 with ⟨g1, g2⟩ | ⟨g1, _⟩ | ⟨g1, _⟩
    · rw [h2, g2]
    · rw [← hz, h1] at g1; cases g1
    · rw [← hz, h1] at g1; cases g1
  · rcases ofM_cases m hok2 with ⟨g1, g2⟩ | ⟨_, _, g2⟩ | ⟨_, g1, _⟩
    · rw [← hz, h1] at g1; cases g1
    · rw [h2, g2]
    · have := g1 x (h.mem_iff.1 hx); rw [← ho] at this; omega
  · rcases ofM_cases m hok2 with ⟨g1, g2⟩ | ⟨_, ⟨x, hx, g1⟩, g2⟩ | ⟨_, _, S, g2, g3, g4, _⟩
    · rw [← hz, h1] at g1; cases g1
    · have := hb x (h.mem_iff.2 hx); rw [ho] at this; omega
    · rw [← hw] at g4
      rw [h2, g2, canon_unique h3 g3 h4 g4]

/-! ### a graph's edges -/
def edgesM (R : List RowD) : List EdgeD := R.flatMap (fun r => r.2.map (fun a => (r.1, a.1, a.2)))
def wta (l : List ArcD) (t : Nat) : Nat := (l.map (fun a => if a.1 = t then a.2 else 0)).sum
theorem wta_zero {l : List ArcD} {t : Nat} (h : ∀ a ∈ l, a.1 ≠ t) : wta l t = 0 := by
  induction l with
  | nil => rfl
  | cons a l ih =>
    unfold wta at ih ⊢
    rw [List.map_cons, List.sum_cons, if_neg (h a (by simp)), ih (fun b hb => h b (by simp [hb]))]
theorem wta_iff {l : List ArcD} (hp : l.Pairwise (fun a b => a.1 < b.1)) (hpos : ∀ a ∈ l, 0 < a.2) (t v : Nat) : (t, v) ∈ l ↔ (v = wta l t ∧ 0 < v) := by
  induction l with
  | nil => simp [wta]
  | cons a l ih =>
    obtain ⟨h1, h2⟩ := List.pairwise_cons.1 hp
    have ih := ih h2 (fun b hb => hpos b (by simp [hb]))
    have e : wta (a :: l) t = (if a.1 = t then a.2 else 0) + wta l t := rfl
    rw [e]
    by_cases ha : a.1 = t
    · have hz : wta l t = 0 := wta_zero (fun b hb => by have := h1 b hb; omega)
      rw [if_pos ha, hz, Nat.add_zero, List.mem_cons]
      constructor
      · rintro (h | h)
        · rw [← h]; exact ⟨rfl, by have := hpos a (by simp); rw [← h] at this; exact this⟩
        · have := (ih.1 h); omega
      · rintro ⟨rfl, _⟩
        exact .inl (by rw [← ha])
    · rw [if_neg ha, Nat.zero_add, List.mem_cons, ← ih]
      constructor
      · rintro (h | h)
        · exact absurd (by rw [← h]) ha
        · exact h
      · exact .inr
theorem edgesM_cons (r : RowD) (R : List RowD) : edgesM (r :: R) = r.2.map (fun a => (r.1, a.1, a.2)) ++ edgesM R := rfl
theorem edgesM_append (A B : List RowD) : edgesM (A ++ B) = edgesM A ++ edgesM B := by unfold edgesM; rw [List.flatMap_append]
theorem wt_map (f : Nat) (l : List ArcD) (g t : Nat) : wt (l.map (fun a => (f, a.1, a.2))) g t = if f = g then wta l t else 0 := by
  unfold wt wta
  rw [List.map_map]
  induction l with
  | nil => simp
  | cons a l ih =>
    rw [List.map_cons, List.sum_cons, ih]
    by_cases h : f = g
    · simp [h]
    · simp [h]
theorem outw_map (f : Nat) (l : List ArcD) (g : Nat) : outw (l.map (fun a => (f, a.1, a.2))) g = if f = g then sumA l else 0 := by
  unfold outw sumA
  rw [List.map_map]
  induction l with
  | nil => simp
  | cons a l ih =>
    rw [List.map_cons, List.sum_cons, ih]
    by_cases h : f = g
    · simp [h]
    · simp [h]
theorem edgesM_other {R : List RowD} {f : Nat} (h : ∀ r ∈ R, r.1 ≠ f) (t : Nat) : wt (edgesM R) f t = 0 ∧ outw (edgesM R) f = 0 := by
  induction R with
  | nil => exact ⟨rfl, rfl⟩
  | cons r R ih =>
    obtain ⟨h1, h2⟩ := ih (fun x hx => h x (by simp [hx]))
    have hr := h r (by simp)
    rw [edgesM_cons, wt_append, outw_append, wt_map, outw_map, if_neg hr, if_neg hr, h1, h2]
    exact ⟨rfl, rfl⟩
theorem edgesM_out {R : List RowD} (hp : R.Pairwise (fun a b => a.1 < b.1)) : ∀ r ∈ R, outw (edgesM R) r.1 = sumA r.2 := by
  induction R with
  | nil => simp
  | cons q R ih =>
    obtain ⟨h1, h2⟩ := List.pairwise_cons.1 hp
    intro r hr
    rw [edgesM_cons, outw_append, outw_map]
    rcases List.mem_cons.1 hr with rfl | hr
    · rw [if_pos rfl, (edgesM_other (fun x hx => by have := h1 x hx; omega) 0).2, Nat.add_zero]
    · rw [if_neg (by have := h1 r hr; omega), ih h2 r hr, Nat.zero_add]
theorem edgesM_repr {R : List RowD} (h : canonR R) : reprR R (wt (edgesM R)) := by
  obtain ⟨hp, hc⟩ := h
  intro f t v
  induction R with
  | nil => simp [edgesM, wt]
  | cons q R ih =>
    obtain ⟨h1, h2⟩ := List.pairwise_cons.1 hp
    have ih := ih h2 (fun r hr => hc r (by simp [hr]))
    have hq := hc q (by simp)
    rw [edgesM_cons, wt_append, wt_map]
    by_cases e : q.1 = f
    · rw [if_pos e, (edgesM_other (fun x hx => by have := h1 x hx; omega) t).1, Nat.add_zero, ← wta_iff hq.2.1 hq.2.2]
      constructor
      · rintro ⟨r, hr, hr1, hr2⟩
        rcases List.mem_cons.1 hr with rfl | hr
        · exact hr2
        · have := h1 r hr; omega
      · exact fun hm => ⟨q, by simp, e, hm⟩
    · rw [if_neg e, Nat.zero_add, ← ih]
      constructor
      · rintro ⟨r, hr, hr1, hr2⟩
        rcases List.mem_cons.1 hr with rfl | hr
        · exact absurd hr1 e
        · exact ⟨r, hr, hr1, hr2⟩
      · rintro ⟨r, hr, h⟩
        exact ⟨r, by simp [hr], h⟩
theorem edgesM_mem {R : List RowD} {x : EdgeD} : x ∈ edgesM R ↔ ∃ r ∈ R, r.1 = x.1 ∧ (x.2.1, x.2.2) ∈ r.2 := by
  unfold edgesM
  rw [List.mem_flatMap]
  constructor
  · rintro ⟨r, hr, h⟩
    obtain ⟨a, ha, rfl⟩ := List.mem_map.1 h
    exact ⟨r, hr, rfl, ha⟩
  · rintro ⟨r, hr, h1, h2⟩
    exact ⟨r, hr, List.mem_map.2 ⟨_, h2, by rw [h1]⟩⟩
/-- rows as a graph has them -/
def okG (R : List RowD) : Prop := canonR R ∧ ∀ r ∈ R, r.1 < 4294967296 ∧ (∀ a ∈ r.2, okA a) ∧ sumA r.2 ≤ 2147483647
theorem okG.edges {R : List RowD} (h : okG R) : ∀ x ∈ edgesM R, okE x := fun x hx => by
  obtain ⟨r, hr, h1, h2⟩ := edgesM_mem.1 hx
  obtain ⟨h3, h4, _⟩ := h.2 r hr
  exact ⟨by rw [← h1]; exact h3, (h4 _ h2).1, (h4 _ h2).2⟩
/-- the graph of a graph's edges -/
theorem ofM_edges {R : List RowD} (h : okG R) : ofM (edgesM R) = (R, 0) := by
  have hz : zeroW (edgesM R) = false := by
    rw [← Bool.not_eq_true]
    intro hz
    unfold zeroW at hz
    rw [List.any_eq_true] at hz
    obtain ⟨x, hx, e⟩ := hz
    obtain ⟨r, hr, _, h2⟩ := edgesM_mem.1 hx
    have := (h.1.2 r hr).2.2 _ h2
    simp at e
    simp only at this
    omega
  rcases ofM_cases (edgesM R) h.edges with ⟨h1, _⟩ | ⟨_, ⟨x, hx, hb⟩, _⟩ | ⟨_, _, S, h2, h3, h4, _⟩
  · rw [hz] at h1; cases h1
  · obtain ⟨r, hr, h1, _⟩ := edgesM_mem.1 hx
    rw [← h1, edgesM_out h.1.1 r hr] at hb
    have := (h.2 r hr).2.2
    omega
  · rw [h2, canon_unique h3 h.1 h4 (edgesM_repr h.1)]
theorem ofM_okG {l : List EdgeD} (hok : ∀ x ∈ l, okE x) {R : List RowD} (h : ofM l = (R, 0)) : okG R := by
  rcases ofM_cases l hok with ⟨_, h2⟩ | ⟨_, _, h2⟩ | ⟨_, hb, S, h2, h3, h4, h5⟩
  · rw [h2] at h; cases h
  · rw [h2] at h; cases h
  · rw [h2] at h
    cases h
    refine ⟨h3, fun r hr => ?_⟩
    have hm : ∀ a ∈ r.2, ∃ x ∈ l, x.1 = r.1 ∧ x.2.1 = a.1 := fun a ha => by
      have := (h4 r.1 a.1 a.2).1 ⟨r, hr, rfl, ha⟩
      exact wt_mem (by omega)
    have hs := h5 r hr
    have hle : ∀ a ∈ r.2, a.2 ≤ sumA r.2 := fun a ha => by
      unfold sumA
      generalize r.2 = q at ha
      induction q with
      | nil => cases ha
      | cons b q ih =>
        rw [List.map_cons, List.sum_cons]
        rcases List.mem_cons.1 ha with rfl | ha
        · omega
        · have := ih ha; omega
    refine ⟨?_, fun a ha => ?_, hs⟩
    · obtain ⟨hne, _, _⟩ := h3.2 r hr
      obtain ⟨a, ha⟩ := List.exists_mem_of_ne_nil _ hne
      obtain ⟨x, hx, h1, _⟩ := hm a ha
      rw [← h1]; exact (hok x hx).1
    · obtain ⟨x, hx, _, h1⟩ := hm a ha
      have := hle a ha
      exact ⟨by rw [← h1]; exact (hok x hx).2.1, by omega⟩
theorem okG.may {R : List RowD} (h : okG R) : ∀ r ∈ R, mayA r.2 = true ∧ r.2 ≠ [] := fun r hr =>
  ⟨decide_eq_true ⟨(h.1.2 r hr).2.2, (h.1.2 r hr).2.1, (h.2 r hr).2.2⟩, (h.1.2 r hr).1⟩

/-! ### New -/
/-- the error's number of the row k -/
def newErr (R : List RowD) (k : Nat) : Nat :=
  if h : k < R.length then (if R[k].2 = [] ∨ mayA R[k].2 = false then 3 else if h0 : 0 < k then (if R[k].1 ≤ (R[k - 1]'(by omega)).1 then 13 else 0) else 0) else 0
def newGo (R : List RowD) (k : Nat) : Nat → Nat
  | 0 => 0
  | n + 1 => if newErr R k ≠ 0 then newErr R k else newGo R (k + 1) n
def newM15 (R : List RowD) : Nat := newGo R 0 R.length
theorem newGo_no (R : List RowD) : ∀ n k, (∀ i, k ≤ i → i < k + n → newErr R i = 0) → newGo R k n = 0
  | 0, _, _ => rfl
  | n + 1, k, h => by
    rw [newGo, if_neg (by rw [h k (Nat.le_refl _) (by omega)]; simp)]
    exact newGo_no R n (k + 1) (fun i h1 h2 => h i (by omega) (by omega))
theorem newGo_at (R : List RowD) : ∀ n k j, k ≤ j → j < k + n → (∀ i, k ≤ i → i < j → newErr R i = 0) → newErr R j ≠ 0 → newGo R k n = newErr R j
  | 0, _, _, _, _, _, _ => by omega
  | n + 1, k, j, h1, h2, h3, h4 => by
    rw [newGo]
    by_cases e : k = j
    · subst e; rw [if_pos h4]
    · rw [if_neg (by rw [h3 k (Nat.le_refl _) (by omega)]; simp)]
      exact newGo_at R n (k + 1) j (by omega) (by omega) (fun i h5 h6 => h3 i (by omega) h6) h4
theorem newM15_at {R : List RowD} {j : Nat} (h2 : j < R.length) (h3 : ∀ i, i < j → newErr R i = 0) (h4 : newErr R j ≠ 0) : newM15 R = newErr R j :=
  newGo_at R R.length 0 j (Nat.zero_le _) (by omega) (fun i _ h => h3 i h) h4
theorem newM15_ok {R : List RowD} (h : ∀ i, i < R.length → newErr R i = 0) : newM15 R = 0 := newGo_no R R.length 0 (fun i _ h1 => h i (by omega))
theorem newM15_okG {R : List RowD} (h : okG R) : newM15 R = 0 := newM15_ok fun i hi => by
  have hm := h.may R[i] (List.getElem_mem hi)
  unfold newErr
  rw [dif_pos hi, if_neg (by rintro (e | e); exact hm.2 e; rw [hm.1] at e; cases e)]
  split
  · rename_i h0
    rw [if_neg (by have := List.pairwise_iff_getElem.1 h.1.1 (i - 1) i (by omega) hi (by omega); omega)]
  · rfl
theorem newErr_ok {R : List RowD} {k : Nat} (hk : k < R.length) (h : newErr R k = 0) : R[k].2 ≠ [] ∧ mayA R[k].2 = true ∧ ∀ h0 : 0 < k, (R[k - 1]'(by omega)).1 < R[k].1 := by
  unfold newErr at h
  rw [dif_pos hk] at h
  split at h
  · cases h
  · rename_i h1
    refine ⟨fun e => h1 (.inl e), by cases hm : mayA R[k].2 with | true => rfl | false => exact absurd (.inr hm) h1, fun h0 => ?_⟩
    rw [dif_pos h0] at h
    split at h
    · cases h
    · omega

/-! ### vertices -/
def withV (l : List Nat) (v : Nat) : List Nat := l.filter (fun x => x < v) ++ [v] ++ l.filter (fun x => v < x)
def vertM (R : List RowD) : List Nat := (edgesM R).foldl (fun out x => withV (withV out x.1) x.2.1) []
theorem withV_mem (l : List Nat) (v x : Nat) : x ∈ withV l v ↔ x = v ∨ x ∈ l := by
  unfold withV
  simp only [List.mem_append, List.mem_filter, List.mem_singleton, decide_eq_true_eq]
  constructor
  · rintro ((h | h) | h)
    · exact .inr h.1
    · exact .inl h
    · exact .inr h.1
  · rintro (h | h)
    · exact .inl (.inr h)
    · rcases Nat.lt_trichotomy x v with e | e | e
      · exact .inl (.inl ⟨h, e⟩)
      · exact .inl (.inr e)
      · exact .inr ⟨h, e⟩
theorem withV_rise {l : List Nat} (v : Nat) (h : l.Pairwise (· < ·)) : (withV l v).Pairwise (· < ·) := by
  unfold withV
  rw [List.pairwise_append, List.pairwise_append]
  refine ⟨⟨h.filter _, List.pairwise_singleton _ _, ?_⟩, h.filter _, ?_⟩
  · intro a ha b hb
    rw [List.mem_singleton.1 hb]
    simpa using (List.mem_filter.1 ha).2
  · intro a ha b hb
    have hb2 : v < b := by simpa using (List.mem_filter.1 hb).2
    rcases List.mem_append.1 ha with h1 | h1
    · have : a < v := by simpa using (List.mem_filter.1 h1).2
      omega
    · rw [List.mem_singleton.1 h1]; exact hb2
/-- the numbers that a graph's vertices are collected from -/
def rawV (R : List RowD) : List Nat := R.flatMap (fun r => r.1 :: r.2.map (·.1))
theorem foldV_all (E : List EdgeD) : ∀ out : List Nat, out.Pairwise (· < ·) → (E.foldl (fun out x => withV (withV out x.1) x.2.1) out).Pairwise (· < ·) ∧ ∀ x, x ∈ E.foldl (fun out x => withV (withV out x.1) x.2.1) out ↔ x ∈ out ∨ ∃ e ∈ E, x = e.1 ∨ x = e.2.1 := by
  induction E with
  | nil => intro out h; exact ⟨h, by simp⟩
  | cons e E ih =>
    intro out h
    obtain ⟨h1, h2⟩ := ih (withV (withV out e.1) e.2.1) (withV_rise _ (withV_rise _ h))
    refine ⟨h1, fun x => ?_⟩
    rw [List.foldl_cons, h2 x, withV_mem, withV_mem]
    simp only [List.mem_cons, exists_eq_or_imp]
    constructor
    · rintro ((h | h | h) | h)
      · exact .inr (.inl (.inr h))
      · exact .inr (.inl (.inl h))
      · exact .inl h
      · exact .inr (.inr h)
    · rintro (h | (h | h) | h)
      · exact .inl (.inr (.inr h))
      · exact .inl (.inr (.inl h))
      · exact .inl (.inl h)
      · exact .inr h
theorem vertM_all (R : List RowD) : (vertM R).Pairwise (· < ·) ∧ ∀ x, x ∈ vertM R ↔ ∃ e ∈ edgesM R, x = e.1 ∨ x = e.2.1 := by
  obtain ⟨h1, h2⟩ := foldV_all (edgesM R) [] .nil
  exact ⟨h1, fun x => by rw [vertM, h2 x]; simp⟩
theorem rawV_mem {R : List RowD} (h : ∀ r ∈ R, r.2 ≠ []) (x : Nat) : x ∈ rawV R ↔ x ∈ vertM R := by
  rw [(vertM_all R).2 x]
  unfold rawV
  rw [List.mem_flatMap]
  constructor
  · rintro ⟨r, hr, hx⟩
    rcases List.mem_cons.1 hx with rfl | hx
    · obtain ⟨a, ha⟩ := List.exists_mem_of_ne_nil _ (h r hr)
      exact ⟨(r.1, a.1, a.2), edgesM_mem.2 ⟨r, hr, rfl, ha⟩, .inl rfl⟩
    · obtain ⟨a, ha, rfl⟩ := List.mem_map.1 hx
      exact ⟨(r.1, a.1, a.2), edgesM_mem.2 ⟨r, hr, rfl, ha⟩, .inr rfl⟩
  · rintro ⟨e, he, hx⟩
    obtain ⟨r, hr, h1, h2⟩ := edgesM_mem.1 he
    refine ⟨r, hr, ?_⟩
    rcases hx with rfl | rfl
    · rw [← h1]; exact List.mem_cons_self ..
    · exact List.mem_cons_of_mem _ (List.mem_map.2 ⟨_, h2, rfl⟩)
/-- rising numbers, those that differ from the one ahead: the vertices -/
theorem kept_all (G : Nat → Nat) : ∀ n, (∀ i j, i < j → j < n → G i ≤ G j) → (keptN G n).Pairwise (· < ·) ∧ (∀ x, x ∈ keptN G n ↔ ∃ i, i < n ∧ G i = x)
  | 0, _ => ⟨.nil, by simp [keptN]⟩
  | n + 1, h => by
    obtain ⟨h1, h2⟩ := kept_all G n (fun i j hij hj => h i j hij (by omega))
    by_cases hc : n = 0 ∨ G n ≠ G (n - 1)
    · rw [keptN_yes hc]
      refine ⟨List.pairwise_append.2 ⟨h1, List.pairwise_singleton _ _, ?_⟩, fun x => ?_⟩
      · intro a ha b hb
        rw [List.mem_singleton.1 hb]
        obtain ⟨i, hi, rfl⟩ := (h2 a).1 ha
        rcases hc with hc | hc
        · omega
        · have e1 := h (n - 1) n (by omega) (by omega)
          rcases Nat.lt_or_ge i (n - 1) with e | e
          · have := h i (n - 1) e (by omega); omega
          · obtain rfl : i = n - 1 := by omega
            omega
      · rw [List.mem_append, h2, List.mem_singleton]
        constructor
        · rintro (⟨i, hi, rfl⟩ | rfl)
          · exact ⟨i, by omega, rfl⟩
          · exact ⟨n, by omega, rfl⟩
        · rintro ⟨i, hi, rfl⟩
          by_cases e : i = n
          · exact .inr (by rw [e])
          · exact .inl ⟨i, by omega, rfl⟩
    · rw [keptN_no hc]
      refine ⟨h1, fun x => ?_⟩
      rw [h2]
      constructor
      · rintro ⟨i, hi, rfl⟩; exact ⟨i, by omega, rfl⟩
      · rintro ⟨i, hi, rfl⟩
        by_cases e : i = n
        · exact ⟨n - 1, by omega, by subst e; have : ¬ G i ≠ G (i - 1) := fun x => hc (.inr x); exact (Decidable.not_not.1 this).symm⟩
        · exact ⟨i, by omega, rfl⟩
theorem kept_vert {R : List RowD} (h : ∀ r ∈ R, r.2 ≠ []) (G : Nat → Nat) (n : Nat) (hs : ∀ i j, i < j → j < n → G i ≤ G j) (hm : ∀ x, (∃ i, i < n ∧ G i = x) ↔ x ∈ rawV R) : keptN G n = vertM R := by
  obtain ⟨h1, h2⟩ := kept_all G n hs
  exact rise_ext id _ _ h1 (vertM_all R).1 (fun x => by rw [h2, hm, rawV_mem h])
/-! ### near -/
def near15M (R : List RowD) (v tv : Nat) : Bool := nearM (arcs15M R v) tv
end Go.Proofs.Ytlgnpogmgpgdaaa
