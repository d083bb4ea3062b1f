/- What rows come of sorted edges: rising rows that have each pair's weight; such rows are one. No program in sight. -/
import Derived.Test.YtlgnpogmgpgdaaaBdRows
namespace Go.Proofs.Ytlgnpogmgpgdaaa
set_option linter.unusedSimpArgs false
set_option linter.unusedVariables false
set_option maxRecDepth 100000
open Go.RowKit

def wt (l : List EdgeD) (f t : Nat) : Nat := (l.map (fun x => if x.1 = f ∧ x.2.1 = t then x.2.2 else 0)).sum
def outw (l : List EdgeD) (f : Nat) : Nat := (l.map (fun x => if x.1 = f then x.2.2 else 0)).sum
theorem wt_append (l m : List EdgeD) (f t : Nat) : wt (l ++ m) f t = wt l f t + wt m f t := by simp [wt]
theorem outw_append (l m : List EdgeD) (f : Nat) : outw (l ++ m) f = outw l f + outw m f := by simp [outw]
theorem wt_one (x : EdgeD) (f t : Nat) : wt [x] f t = if x.1 = f ∧ x.2.1 = t then x.2.2 else 0 := by simp [wt]
theorem outw_one (x : EdgeD) (f : Nat) : outw [x] f = if x.1 = f then x.2.2 else 0 := by simp [outw]
theorem wt_le_outw (l : List EdgeD) (f t : Nat) : wt l f t ≤ outw l f := by
  induction l with
  | nil => simp [wt, outw]
  | cons x l ih =>
    have h1 := wt_append [x] l f t
    have h2 := outw_append [x] l f
    rw [wt_one] at h1
    rw [outw_one] at h2
    simp only [List.singleton_append] at h1 h2
    rw [h1, h2]
    by_cases ha : x.1 = f
    · rw [if_pos ha]; split <;> omega
    · rw [if_neg ha, if_neg (fun h => ha h.1)]; omega
theorem wt_mem {l : List EdgeD} {f t : Nat} (h : 0 < wt l f t) : ∃ x ∈ l, x.1 = f ∧ x.2.1 = t := by
  induction l with
  | nil => simp [wt] at h
  | cons x l ih =>
    have h1 := wt_append [x] l f t
    rw [wt_one] at h1
    simp only [List.singleton_append] at h1
    by_cases ha : x.1 = f ∧ x.2.1 = t
    · exact ⟨x, by simp, ha⟩
    · rw [if_neg ha] at h1
      obtain ⟨y, hy, hy2⟩ := ih (by omega)
      exact ⟨y, by simp [hy], hy2⟩
theorem outw_mem {l : List EdgeD} {f : Nat} (h : 0 < outw l f) : ∃ x ∈ l, x.1 = f := by
  induction l with
  | nil => simp [outw] at h
  | cons x l ih =>
    have h1 := outw_append [x] l f
    rw [outw_one] at h1
    simp only [List.singleton_append] at h1
    by_cases ha : x.1 = f
    · exact ⟨x, by simp, ha⟩
    · rw [if_neg ha] at h1
      obtain ⟨y, hy, hy2⟩ := ih (by omega)
      exact ⟨y, by simp [hy], hy2⟩
theorem wt_pos {l : List EdgeD} {x : EdgeD} (h : x ∈ l) (hx : x.2.2 ≠ 0) : 0 < wt l x.1 x.2.1 := by
  obtain ⟨a, b, rfl⟩ := List.append_of_mem h
  rw [wt_append, show x :: b = [x] ++ b from rfl, wt_append, wt_one, if_pos ⟨rfl, rfl⟩]
  omega

/-- one list by its members, rising -/
theorem rise_ext {α : Type} (k : α → Nat) : ∀ (l m : List α), l.Pairwise (fun a b => k a < k b) → m.Pairwise (fun a b => k a < k b) → (∀ x, x ∈ l ↔ x ∈ m) → l = m
  | [], [], _, _, _ => rfl
  | [], y :: m, _, _, h => absurd ((h y).2 (by simp)) (by simp)
  | x :: l, [], _, _, h => absurd ((h x).1 (by simp)) (by simp)
  | x :: l, y :: m, hl, hm, h => by
    rw [List.pairwise_cons] at hl hm
    have hxy : x = y := by
      rcases List.mem_cons.1 ((h x).1 (by simp)) with e | e
      · exact e
      · rcases List.mem_cons.1 ((h y).2 (by simp)) with e2 | e2
        · exact e2.symm
        · have := hm.1 x e; have := hl.1 y e2; omega
    subst hxy
    rw [rise_ext k l m hl.2 hm.2 (fun z => ?_)]
    have h1 := h z
    simp only [List.mem_cons] at h1
    constructor
    · intro hz
      rcases h1.1 (.inr hz) with e | e
      · subst e; have := hl.1 z hz; omega
      · exact e
    · intro hz
      rcases h1.2 (.inr hz) with e | e
      · subst e; have := hm.1 z hz; omega
      · exact e
def canonArcs (l : List ArcD) : Prop := l ≠ [] ∧ l.Pairwise (fun a b => a.1 < b.1) ∧ ∀ a ∈ l, 0 < a.2
def canonR (R : List RowD) : Prop := R.Pairwise (fun a b => a.1 < b.1) ∧ ∀ r ∈ R, canonArcs r.2
/-- the rows have each pair's weight -/
def reprR (R : List RowD) (W : Nat → Nat → Nat) : Prop := ∀ f t v, (∃ r ∈ R, r.1 = f ∧ (t, v) ∈ r.2) ↔ (v = W f t ∧ 0 < v)
theorem rise_one {α : Type} {k : α → Nat} : ∀ {l : List α} {a b : α}, l.Pairwise (fun a b => k a < k b) → a ∈ l → b ∈ l → k a = k b → a = b
  | x :: l, a, b, hl, ha, hb, he => by
    rw [List.pairwise_cons] at hl
    rcases List.mem_cons.1 ha with e1 | h1
    · rcases List.mem_cons.1 hb with e2 | h2
      · rw [e1, e2]
      · have := hl.1 b h2; rw [e1] at he; omega
    · rcases List.mem_cons.1 hb with e2 | h2
      · have := hl.1 a h1; rw [e2] at he; omega
      · exact rise_one hl.2 h1 h2 he
theorem canon_unique {R S : List RowD} {W : Nat → Nat → Nat} (hR : canonR R) (hS : canonR S) (rR : reprR R W) (rS : reprR S W) : R = S := by
  have half : ∀ {R S : List RowD}, canonR R → canonR S → reprR R W → reprR S W → ∀ r ∈ R, r ∈ S := by
    intro R S hR hS rR rS r hr
    have hc := hR.2 r hr
    obtain ⟨a, l, ha⟩ : ∃ a l, r.2 = a :: l := by
      cases h : r.2 with
      | nil => exact absurd h hc.1
      | cons a l => exact ⟨a, l, rfl⟩
    have h1 := (rR r.1 a.1 a.2).1 ⟨r, hr, rfl, by rw [ha]; simp⟩
    obtain ⟨s, hs, hsf, hsa⟩ := (rS r.1 a.1 a.2).2 h1
    have he : s.2 = r.2 := by
      refine rise_ext (fun a => a.1) _ _ (hS.2 s hs).2.1 hc.2.1 (fun z => ⟨fun hz => ?_, fun hz => ?_⟩)
      · obtain ⟨r', hr', hf', hz'⟩ := (rR r.1 z.1 z.2).2 ((rS r.1 z.1 z.2).1 ⟨s, hs, hsf, hz⟩)
        have : r' = r := rise_one (k := fun r => r.1) hR.1 hr' hr hf'
        rw [← this]; exact hz'
      · obtain ⟨s', hs', hf', hz'⟩ := (rS r.1 z.1 z.2).2 ((rR r.1 z.1 z.2).1 ⟨r, hr, rfl, hz⟩)
        have : s' = s := rise_one (k := fun r => r.1) hS.1 hs' hs (hf'.trans hsf.symm)
        rw [← this]; exact hz'
    have : s = r := Prod.ext hsf he
    rw [← this]; exact hs
  exact rise_ext (fun r => r.1) R S hR.1 hS.1 (fun r => ⟨half hR hS rR rS r, half hS hR rS rR r⟩)

/-- an edge behind what is there -/
def leE (x y : EdgeD) : Prop := x.1 < y.1 ∨ (x.1 = y.1 ∧ x.2.1 ≤ y.2.1)
def domR (R : List RowD) (x : EdgeD) : Prop := ∀ r ∈ R, r.1 < x.1 ∨ (r.1 = x.1 ∧ ∀ a ∈ r.2, a.1 ≤ x.2.1)
theorem domR.mono {R : List RowD} {x y : EdgeD} (h : domR R x) (hxy : leE x y) : domR R y := fun r hr => by
  rcases h r hr with h1 | ⟨h1, h2⟩
  · rcases hxy with h3 | ⟨h3, _⟩
    · exact .inl (by omega)
    · exact .inl (by omega)
  · rcases hxy with h3 | ⟨h3, h4⟩
    · exact .inl (by omega)
    · exact .inr ⟨by omega, fun a ha => Nat.le_trans (h2 a ha) h4⟩
theorem leE_of {x y : EdgeD} (h : belowE y x = false) : leE x y := by
  unfold belowE at h
  unfold leE
  by_cases h1 : y.1 = x.1
  · rw [if_pos h1] at h
    by_cases h2 : y.2.1 = x.2.1
    · exact .inr ⟨h1.symm, by omega⟩
    · rw [if_neg h2] at h
      have : ¬ y.2.1 < x.2.1 := by simpa using h
      exact .inr ⟨h1.symm, by omega⟩
  · rw [if_neg h1] at h
    have : ¬ y.1 < x.1 := by simpa using h
    exact .inl (by omega)
/-- the state behind the edges p -/
structure CanS (R : List RowD) (p : List EdgeD) : Prop where
  can : canonR R
  rep : reprR R (wt p)
  sums : ∀ r ∈ R, sumA r.2 = outw p r.1 ∧ sumA r.2 ≤ 2147483647
  all : ∀ x ∈ p, ∃ r ∈ R, r.1 = x.1
theorem CanS.nil : CanS [] [] := ⟨⟨.nil, by simp⟩, fun f t v => by simp [wt], by simp, by simp⟩
theorem CanS.build {A : List RowD} {p : List EdgeD} {x : EdgeD} {arcs : List ArcD} (hA1 : A.Pairwise (fun a b => a.1 < b.1)) (hA2 : ∀ r ∈ A, canonArcs r.2) (hlt : ∀ r ∈ A, r.1 < x.1)
    (hrep : ∀ f t v, f ≠ x.1 → ((∃ r ∈ A, r.1 = f ∧ (t, v) ∈ r.2) ↔ (v = wt p f t ∧ 0 < v))) (hsum : ∀ r ∈ A, sumA r.2 = outw p r.1 ∧ sumA r.2 ≤ 2147483647) (hall : ∀ y ∈ p, y.1 ≠ x.1 → ∃ r ∈ A, r.1 = y.1)
    (ha : canonArcs arcs) (hm : ∀ t v, (t, v) ∈ arcs ↔ (v = wt (p ++ [x]) x.1 t ∧ 0 < v)) (hs : sumA arcs = outw p x.1 + x.2.2) (hle : sumA arcs ≤ 2147483647) (hd : ∀ a ∈ arcs, a.1 ≤ x.2.1) :
    CanS (A ++ [(x.1, arcs)]) (p ++ [x]) ∧ domR (A ++ [(x.1, arcs)]) x := by
  refine ⟨⟨⟨?_, fun r hr => ?_⟩, fun f t v => ?_, fun r hr => ?_, fun y hy => ?_⟩, fun r hr => ?_⟩
  · rw [List.pairwise_append]
    exact ⟨hA1, by simp, fun a ha b hb => by rw [List.mem_singleton.1 hb]; exact hlt a ha⟩
  · rcases List.mem_append.1 hr with h | h
    · exact hA2 r h
    · rw [List.mem_singleton.1 h]; exact ha
  · by_cases hf : f = x.1
    · subst hf
      constructor
      · rintro ⟨r, hr, hrf, hrt⟩
        rcases List.mem_append.1 hr with h | h
        · have := hlt r h; omega
        · rw [List.mem_singleton.1 h] at hrt
          exact (hm t v).1 hrt
      · intro h
        exact ⟨(x.1, arcs), by simp, rfl, (hm t v).2 h⟩
    · have hw : wt (p ++ [x]) f t = wt p f t := by rw [wt_append, wt_one, if_neg (fun h => hf h.1.symm)]; rfl
      rw [hw, ← hrep f t v hf]
      constructor
      · rintro ⟨r, hr, hrf, hrt⟩
        rcases List.mem_append.1 hr with h | h
        · exact ⟨r, h, hrf, hrt⟩
        · rw [List.mem_singleton.1 h] at hrf
          exact absurd hrf.symm hf
      · rintro ⟨r, hr, hrf, hrt⟩
        exact ⟨r, List.mem_append.2 (.inl hr), hrf, hrt⟩
  · rw [outw_append, outw_one]
    rcases List.mem_append.1 hr with h | h
    · have := hlt r h
      rw [if_neg (by omega)]
      exact hsum r h
    · rw [List.mem_singleton.1 h, if_pos rfl]
      exact ⟨hs, hle⟩
  · rcases List.mem_append.1 hy with h | h
    · by_cases hf : y.1 = x.1
      · exact ⟨(x.1, arcs), by simp, hf.symm⟩
      · obtain ⟨r, hr, he⟩ := hall y h hf
        exact ⟨r, List.mem_append.2 (.inl hr), he⟩
    · rw [List.mem_singleton.1 h]; exact ⟨(x.1, arcs), by simp, rfl⟩
  · rcases List.mem_append.1 hr with h | h
    · exact .inl (hlt r h)
    · rw [List.mem_singleton.1 h]; exact .inr ⟨rfl, hd⟩
theorem CanS.new {R : List RowD} {p : List EdgeD} {x : EdgeD} (hs : CanS R p) (hx : x.2.2 ≠ 0) (hm : x.2.2 ≤ 2147483647) (hlt : ∀ r ∈ R, r.1 < x.1) : CanS (R ++ [(x.1, [(x.2.1, x.2.2)])]) (p ++ [x]) ∧ domR (R ++ [(x.1, [(x.2.1, x.2.2)])]) x := by
  have h0 : outw p x.1 = 0 := by
    rcases Nat.eq_zero_or_pos (outw p x.1) with h | h
    · exact h
    · obtain ⟨y, hy, hyf⟩ := outw_mem h
      obtain ⟨r, hr, hrf⟩ := hs.all y hy
      have := hlt r hr; omega
  refine CanS.build hs.can.1 hs.can.2 hlt (fun f t v _ => hs.rep f t v) hs.sums (fun y hy _ => hs.all y hy) ⟨by simp, by simp, fun a ha => by rw [List.mem_singleton.1 ha]; simp only; omega⟩ (fun t v => ?_) (by rw [sumA_one, h0]; simp) (by rw [sumA_one]; exact hm) (fun a ha => by rw [List.mem_singleton.1 ha]; exact Nat.le_refl _)
  have hw := wt_le_outw p x.1 t
  rw [wt_append, wt_one, List.mem_singleton, Prod.mk.injEq]
  constructor
  · rintro ⟨rfl, rfl⟩; rw [if_pos ⟨rfl, rfl⟩]; omega
  · rintro ⟨h1, h2⟩
    by_cases h : x.2.1 = t
    · rw [if_pos ⟨rfl, h⟩] at h1; exact ⟨h.symm, by omega⟩
    · rw [if_neg (fun e => h e.2)] at h1; omega
theorem CanS.step {R : List RowD} {p : List EdgeD} {x : EdgeD} (hs : CanS R p) (hd : domR R x) (hx : x.2.2 ≠ 0) (hm : hasR R x + x.2.2 ≤ 2147483647) : CanS (withR R x) (p ++ [x]) ∧ domR (withR R x) x := by
  rcases List.eq_nil_or_concat R with rfl | ⟨A, r, h⟩
  · exact hs.new hx (by omega) (by simp)
  · rw [List.concat_eq_append] at h
    subst h
    have hpw := List.pairwise_append.1 hs.can.1
    have hAr : ∀ q ∈ A, q.1 < r.1 := fun q hq => hpw.2.2 q hq r (by simp)
    rw [hasR_of] at hm
    unfold withR
    rw [List.getLast?_concat]
    simp only [List.dropLast_concat]
    by_cases h1 : r.1 = x.1
    · rw [if_pos h1] at hm ⊢
      have hcr := hs.can.2 r (by simp)
      have hdr : ∀ a ∈ r.2, a.1 ≤ x.2.1 := by
        rcases hd r (by simp) with h | h
        · omega
        · exact h.2
      have hsr := hs.sums r (by simp)
      have hmr : ∀ t v, (t, v) ∈ r.2 ↔ (v = wt p x.1 t ∧ 0 < v) := fun t v => by
        rw [← hs.rep x.1 t v]
        constructor
        · exact fun h => ⟨r, by simp, h1, h⟩
        · rintro ⟨q, hq, hqf, hqt⟩
          rcases List.mem_append.1 hq with h | h
          · have := hAr q h; omega
          · rw [List.mem_singleton.1 h] at hqt; exact hqt
      have hrepA : ∀ f t v, f ≠ x.1 → ((∃ r ∈ A, r.1 = f ∧ (t, v) ∈ r.2) ↔ (v = wt p f t ∧ 0 < v)) := fun f t v hf => by
        rw [← hs.rep f t v]
        constructor
        · rintro ⟨q, hq, h⟩; exact ⟨q, List.mem_append.2 (.inl hq), h⟩
        · rintro ⟨q, hq, hqf, hqt⟩
          rcases List.mem_append.1 hq with h | h
          · exact ⟨q, h, hqf, hqt⟩
          · rw [List.mem_singleton.1 h] at hqf; omega
      have hallA : ∀ y ∈ p, y.1 ≠ x.1 → ∃ r ∈ A, r.1 = y.1 := fun y hy hf => by
        obtain ⟨q, hq, he⟩ := hs.all y hy
        rcases List.mem_append.1 hq with h | h
        · exact ⟨q, h, he⟩
        · rw [List.mem_singleton.1 h] at he; omega
      have hsum : sumA (addArc r.2 x) = outw p x.1 + x.2.2 := by rw [addArc_sum, hsr.1, h1]
      refine CanS.build hpw.1 (fun q hq => hs.can.2 q (List.mem_append.2 (.inl hq))) (fun q hq => by have := hAr q hq; omega) hrepA (fun q hq => hs.sums q (List.mem_append.2 (.inl hq))) hallA ?_ (fun t v => ?_) hsum (by rw [addArc_sum]; omega) (fun a ha => ?_)
      all_goals
        obtain ⟨B, a', hB⟩ : ∃ B a', r.2 = B ++ [a'] := by
          rcases List.eq_nil_or_concat r.2 with h | ⟨B, a', h⟩
          · exact absurd h hcr.1
          · exact ⟨B, a', by rw [h, List.concat_eq_append]⟩
        rw [hB] at hcr hdr hmr
        have hpb := List.pairwise_append.1 hcr.2.1
        have hBa : ∀ b ∈ B, b.1 < a'.1 := fun b hb => hpb.2.2 b hb a' (by simp)
        have hda := hdr a' (by simp)
      · rw [hB, addArc_snoc]
        split
        · refine ⟨by simp, ?_, fun a ha => ?_⟩
          · rw [List.pairwise_append]
            exact ⟨hpb.1, by simp, fun b hb c hc => by rw [List.mem_singleton.1 hc]; exact hBa b hb⟩
          · rcases List.mem_append.1 ha with h | h
            · exact hcr.2.2 a (List.mem_append.2 (.inl h))
            · rw [List.mem_singleton.1 h]; simp only; omega
        · rename_i hne
          refine ⟨by simp, ?_, fun a ha => ?_⟩
          · rw [List.pairwise_append]
            refine ⟨hcr.2.1, by simp, fun b hb c hc => ?_⟩
            rw [List.mem_singleton.1 hc]
            simp only
            rcases List.mem_append.1 hb with h | h
            · have := hBa b h; omega
            · rw [List.mem_singleton.1 h]; omega
          · rcases List.mem_append.1 ha with h | h
            · exact hcr.2.2 a h
            · rw [List.mem_singleton.1 h]; simp only; omega
      · rw [hB, addArc_snoc, wt_append, wt_one]
        split
        · rename_i he
          constructor
          · intro h
            rcases List.mem_append.1 h with h | h
            · have hb := hBa _ h
              simp only at hb
              rw [if_neg (fun e => by omega)]
              exact (hmr t v).1 (List.mem_append.2 (.inl h))
            · rw [List.mem_singleton, Prod.mk.injEq] at h
              obtain ⟨rfl, rfl⟩ := h
              have h3 := (hmr a'.1 a'.2).1 (by simp)
              rw [if_pos ⟨rfl, he.symm⟩]
              omega
          · rintro ⟨h2, h3⟩
            by_cases ht : x.2.1 = t
            · rw [if_pos ⟨rfl, ht⟩] at h2
              have h4 := (hmr a'.1 a'.2).1 (by simp)
              rw [he, ht] at h4
              exact List.mem_append.2 (.inr (by rw [List.mem_singleton, Prod.mk.injEq]; exact ⟨by omega, by omega⟩))
            · rw [if_neg (fun e => ht e.2)] at h2
              have h4 := (hmr t v).2 ⟨by omega, h3⟩
              rcases List.mem_append.1 h4 with h | h
              · exact List.mem_append.2 (.inl h)
              · have h5 := List.mem_singleton.1 h
                have h6 : t = a'.1 := by rw [← h5]
                omega
        · rename_i hne
          have hz : wt p x.1 x.2.1 = 0 := by
            rcases Nat.eq_zero_or_pos (wt p x.1 x.2.1) with h | h
            · exact h
            · have h4 := (hmr x.2.1 _).2 ⟨rfl, h⟩
              rcases List.mem_append.1 h4 with h | h
              · have := hBa _ h; simp only at this; omega
              · have h5 := List.mem_singleton.1 h
                have h6 : x.2.1 = a'.1 := by rw [← h5]
                omega
          constructor
          · intro h
            rcases List.mem_append.1 h with h | h
            · have h4 := (hmr t v).1 h
              by_cases ht : x.2.1 = t
              · rw [← ht] at h4; omega
              · rw [if_neg (fun e => ht e.2)]; omega
            · rw [List.mem_singleton, Prod.mk.injEq] at h
              obtain ⟨rfl, rfl⟩ := h
              rw [if_pos ⟨rfl, rfl⟩]; omega
          · rintro ⟨h2, h3⟩
            by_cases ht : x.2.1 = t
            · rw [if_pos ⟨rfl, ht⟩, ← ht] at h2
              exact List.mem_append.2 (.inr (by rw [List.mem_singleton, Prod.mk.injEq]; exact ⟨ht.symm, by omega⟩))
            · rw [if_neg (fun e => ht e.2)] at h2
              exact List.mem_append.2 (.inl ((hmr t v).2 ⟨by omega, h3⟩))
      · rw [hB, addArc_snoc] at ha
        split at ha
        · rcases List.mem_append.1 ha with h | h
          · have := hBa _ h; omega
          · rw [List.mem_singleton.1 h]; exact hda
        · rcases List.mem_append.1 ha with h | h
          · exact hdr a h
          · rw [List.mem_singleton.1 h]; exact Nat.le_refl _
    · rw [if_neg h1] at hm ⊢
      have hlt : ∀ q ∈ A ++ [r], q.1 < x.1 := fun q hq => by
        rcases hd q hq with h | h
        · exact h
        · rcases List.mem_append.1 hq with h2 | h2
          · have h3 := hAr q h2
            rcases hd r (by simp) with h4 | h4
            · omega
            · exact absurd h4.1 h1
          · rw [List.mem_singleton.1 h2] at h; exact absurd h.1 h1
      exact hs.new hx (by omega) hlt
end Go.Proofs.Ytlgnpogmgpgdaaa
