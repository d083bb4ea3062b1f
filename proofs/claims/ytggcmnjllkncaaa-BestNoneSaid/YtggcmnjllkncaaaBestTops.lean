/- The tops of sources in a map: what one more visit turns. And the best ones of each source, in plain words. -/
import Derived.Test.YtggcmnjllkncaaaBestRows
import Derived.Test.YtggcmnjllkncaaaMapU
import Derived.Test.YtggcmnjllkncaaaMapWalk
namespace Go.Proofs.Ytggcmnjllkncaaa
set_option linter.unusedSimpArgs false
set_option linter.unusedVariables false
set_option maxRecDepth 100000
open Go.RowKit

/-! ### plain -/
def ofSrc (L : List VisD) (s : Nat) : List VisD := L.filter (fun x => x.1 == s)
/-- the sources, in the order in which they come -/
def srcsOf (L : List VisD) : List Nat := L.foldl (fun S x => if x.1 ∈ S then S else S ++ [x.1]) []
theorem srcsOf_snoc (L : List VisD) (x : VisD) : srcsOf (L ++ [x]) = if x.1 ∈ srcsOf L then srcsOf L else srcsOf L ++ [x.1] := by unfold srcsOf; rw [List.foldl_append]; rfl
theorem srcsOf_all (L : List VisD) : (srcsOf L).Nodup ∧ ∀ s, s ∈ srcsOf L ↔ ∃ x ∈ L, x.1 = s := by
  have h : ∀ (l S : List _), S.Nodup → (l.foldl (fun S (x : VisD) => if x.1 ∈ S then S else S ++ [x.1]) S).Nodup ∧ ∀ s, s ∈ l.foldl (fun S (x : VisD) => if x.1 ∈ S then S else S ++ [x.1]) S ↔ s ∈ S ∨ ∃ x ∈ l, x.1 = s := by
    intro l
    induction l with
    | nil => intro S hS; exact ⟨hS, fun s => by simp⟩
    | cons x l ih =>
      intro S hS
      rw [List.foldl_cons]
      by_cases hx : x.1 ∈ S
      · rw [if_pos hx]
        obtain ⟨h1, h2⟩ := ih S hS
        refine ⟨h1, fun s => (h2 s).trans ?_⟩
        constructor
        · rintro (h | ⟨y, hy, e⟩)
          · exact .inl h
          · exact .inr ⟨y, by simp [hy], e⟩
        · rintro (h | ⟨y, hy, e⟩)
          · exact .inl h
          · rcases List.mem_cons.1 hy with rfl | hy
            · exact .inl (e ▸ hx)
            · exact .inr ⟨y, hy, e⟩
      · rw [if_neg hx]
        obtain ⟨h1, h2⟩ := ih (S ++ [x.1]) (List.nodup_append.2 ⟨hS, by simp, fun a ha b hb e => hx (by rw [List.mem_singleton] at hb; subst hb; exact e ▸ ha)⟩)
        refine ⟨h1, fun s => (h2 s).trans ?_⟩
        rw [List.mem_append, List.mem_singleton]
        constructor
        · rintro ((h | rfl) | ⟨y, hy, e⟩)
          · exact .inl h
          · exact .inr ⟨x, by simp, rfl⟩
          · exact .inr ⟨y, by simp [hy], e⟩
        · rintro (h | ⟨y, hy, e⟩)
          · exact .inl (.inl h)
          · rcases List.mem_cons.1 hy with rfl | hy
            · exact .inl (.inr e.symm)
            · exact .inr ⟨y, hy, e⟩
  obtain ⟨h1, h2⟩ := h L [] .nil
  exact ⟨h1, fun s => (h2 s).trans ⟨fun h => h.resolve_left (by simp), .inr⟩⟩
theorem ofSrc_snoc (L : List VisD) (x : VisD) (s : Nat) : ofSrc (L ++ [x]) s = if x.1 = s then ofSrc L s ++ [x] else ofSrc L s := by
  unfold ofSrc
  rw [List.filter_append]
  by_cases h : x.1 = s
  · simp [h]
  · simp [h]
theorem ofSrc_nil {L : List VisD} {s : Nat} (h : s ∉ srcsOf L) : ofSrc L s = [] := by
  unfold ofSrc
  rw [List.filter_eq_nil_iff]
  intro x hx e
  exact h (((srcsOf_all L).2 s).2 ⟨x, hx, by simpa using e⟩)
/-- rising, and just the sources -/
def SrcsR (L : List VisD) (S : List Nat) : Prop := S.Pairwise (· < ·) ∧ ∀ s, s ∈ S ↔ ∃ x ∈ L, x.1 = s
theorem rise_one : ∀ {S T : List Nat}, S.Pairwise (· < ·) → T.Pairwise (· < ·) → (∀ s, s ∈ S ↔ s ∈ T) → S = T
  | [], [], _, _, _ => rfl
  | [], y :: T, _, _, h => by have := (h y).2 (by simp); cases this
  | x :: S, [], _, _, h => by have := (h x).1 (by simp); cases this
  | x :: S, y :: T, hS, hT, h => by
    obtain ⟨h1, h2⟩ := List.pairwise_cons.1 hS
    obtain ⟨h3, h4⟩ := List.pairwise_cons.1 hT
    have e : x = y := by
      rcases List.mem_cons.1 ((h x).1 (by simp)) with e | e
      · exact e
      · rcases List.mem_cons.1 ((h y).2 (by simp)) with e2 | e2
        · exact e2.symm
        · have := h3 x e; have := h1 y e2; omega
    subst e
    rw [rise_one h2 h4 (fun s => ⟨fun hs => by
      rcases List.mem_cons.1 ((h s).1 (by simp [hs])) with e | e
      · have := h1 s hs; omega
      · exact e, fun hs => by
      rcases List.mem_cons.1 ((h s).2 (by simp [hs])) with e | e
      · have := h3 s hs; omega
      · exact e⟩)]
theorem SrcsR.one {L : List VisD} {S T : List Nat} (h : SrcsR L S) (k : SrcsR L T) : S = T := rise_one h.1 k.1 (fun s => (h.2 s).trans (k.2 s).symm)
def eachV (S : List Nat) (L : List VisD) (m : Nat) : List VisD := S.flatMap (fun s => bestL (ofSrc L s) m)

/-! ### the map -/
def ents (K : List (Nat × Nat)) : List MapEntry := K.mapIdx (fun i p => ⟨.int .u32 (p.1 : Nat), .pointer (some ⟨p.2, 0, none⟩), i⟩)
theorem ents_snoc (K : List (Nat × Nat)) (p : Nat × Nat) : ents (K ++ [p]) = ents K ++ [⟨.int .u32 (p.1 : Nat), .pointer (some ⟨p.2, 0, none⟩), K.length⟩] := by simp [ents, List.mapIdx_append]
theorem ents_len (K : List (Nat × Nat)) : (ents K).length = K.length := by simp [ents]
theorem ents_get {K : List (Nat × Nat)} {i : Nat} (h : i < K.length) : (ents K)[i]? = some ⟨.int .u32 (K[i].1 : Nat), .pointer (some ⟨K[i].2, 0, none⟩), i⟩ := by simp [ents, h]
theorem ents_mem {K : List (Nat × Nat)} {x : MapEntry} (h : x ∈ ents K) : ∃ p ∈ K, x.key = .int .u32 (p.1 : Nat) ∧ x.val = .pointer (some ⟨p.2, 0, none⟩) ∧ x.born < K.length ∧ K[x.born]? = some p := by
  obtain ⟨i, hi, rfl⟩ := List.mem_iff_getElem.1 h
  have hi' : i < K.length := by rw [ents_len] at hi; exact hi
  have e : (ents K)[i] = ⟨.int .u32 (K[i].1 : Nat), .pointer (some ⟨K[i].2, 0, none⟩), i⟩ := Option.some.inj ((List.getElem?_eq_getElem hi).symm.trans (ents_get hi'))
  rw [e]
  exact ⟨K[i], List.getElem_mem hi', rfl, rfl, hi', List.getElem?_eq_getElem hi'⟩
theorem ents_born (K : List (Nat × Nat)) : ((ents K).map (·.born)).Nodup := by
  have : (ents K).map (·.born) = List.range K.length := by
    apply List.ext_getElem?
    intro i
    rw [List.getElem?_map]
    by_cases h : i < K.length
    · rw [ents_get h]; simp [h]
    · rw [List.getElem?_eq_none (by rw [ents_len]; omega), List.getElem?_eq_none (by simp; omega)]; rfl
  rw [this]
  exact List.nodup_range
theorem fst_inj {K : List (Nat × Nat)} (hn : (K.map (·.1)).Nodup) {i j : Nat} (hi : i < K.length) (hj : j < K.length) (e : K[i].1 = K[j].1) : i = j := by
  have h := List.pairwise_iff_getElem.1 hn
  rcases Nat.lt_trichotomy i j with hl | hl | hl
  · exact absurd (by rw [List.getElem_map, List.getElem_map]; exact e) (h i j (by simpa using hi) (by simpa using hj) hl)
  · exact hl
  · exact absurd (by rw [List.getElem_map, List.getElem_map]; exact e.symm) (h j i (by simpa using hj) (by simpa using hi) hl)
theorem ents_split {K : List (Nat × Nat)} {p : Nat × Nat} (h : p ∈ K) (hn : (K.map (·.1)).Nodup) : ∃ pre post n, ents K = pre ++ ⟨.int .u32 (p.1 : Nat), .pointer (some ⟨p.2, 0, none⟩), n⟩ :: post ∧ ∀ x ∈ pre, ∃ s : Nat, x.key = .int .u32 (s : Nat) ∧ p.1 ≠ s := by
  obtain ⟨i, hi, rfl⟩ := List.mem_iff_getElem.1 h
  have hi' : i < (ents K).length := by rw [ents_len]; exact hi
  have e : (ents K)[i] = ⟨.int .u32 (K[i].1 : Nat), .pointer (some ⟨K[i].2, 0, none⟩), i⟩ := Option.some.inj ((List.getElem?_eq_getElem hi').symm.trans (ents_get hi))
  refine ⟨(ents K).take i, (ents K).drop (i + 1), i, ?_, fun x hx => ?_⟩
  · rw [← e, List.getElem_cons_drop, List.take_append_drop]
  · obtain ⟨j, hj, rfl⟩ := List.mem_iff_getElem.1 hx
    rw [List.length_take] at hj
    rw [List.getElem_take]
    have hj' : j < K.length := by omega
    have e2 : (ents K)[j]'(by rw [ents_len]; exact hj') = ⟨.int .u32 (K[j].1 : Nat), .pointer (some ⟨K[j].2, 0, none⟩), j⟩ := Option.some.inj ((List.getElem?_eq_getElem _).symm.trans (ents_get hj'))
    rw [e2]
    refine ⟨K[j].1, rfl, fun h2 => ?_⟩
    have := fst_inj hn hi hj' h2
    omega
/-- the blocks of a top -/
def fpT (γ : Nat → Option Nat) (p : Nat × Nat) (k : Nat) : Prop := k = p.2 ∨ γ p.2 = some k
structure TopsAt (w : World) (mb base m : Nat) (L : List VisD) (S : List Nat) (K : List (Nat × Nat)) (γ : Nat → Option Nat) : Prop where
  map : MapIs w mb (ents K) K.length
  keys : K.map (·.1) = S
  top : ∀ p ∈ K, TopS w p.2 m (γ p.2) (ofSrc L p.1)
  new : ∀ p ∈ K, ∀ k, fpT γ p k → base ≤ k
  apart : ∀ p ∈ K, ∀ q ∈ K, p.1 ≠ q.1 → ∀ k, fpT γ p k → ¬ fpT γ q k
  mb : base ≤ mb
theorem TopS.block {w : World} {t m : Nat} {g : Option Nat} {l : List VisD} (h : TopS w t m g l) : ∀ k, (k = t ∨ g = some k) → k < w.heap.size ∧ ∃ cs ty fr, w.heap[k]? = some (.cells cs ty fr) := by
  obtain ⟨A, h1, h2, ao, cap, h3, h4, h5⟩ := h
  rintro k (rfl | hk)
  · exact ⟨(Array.getElem?_eq_some_iff.1 h3).1, _, _, _, h3⟩
  · obtain ⟨css, ho, _⟩ := h4
    rcases ho.2 with ⟨_, _, _, hg⟩ | ⟨b, cur, hg, _, hh, _⟩
    · rw [hg] at hk; cases hk
    · rw [hg] at hk; cases hk
      exact ⟨(Array.getElem?_eq_some_iff.1 hh).1, _, _, _, hh⟩
section
variable {w w' : World} {mb base m : Nat} {L : List VisD} {S : List Nat} {K : List (Nat × Nat)} {γ : Nat → Option Nat}
theorem TopsAt.lt (h : TopsAt w mb base m L S K γ) {p : Nat × Nat} (hp : p ∈ K) {k : Nat} (hk : fpT γ p k) : k < w.heap.size ∧ k ≠ mb := by
  obtain ⟨h1, cs, ty, fr, h2⟩ := (h.top p hp).block k hk
  refine ⟨h1, fun e => ?_⟩
  have := h.map
  unfold MapIs at this
  rw [e, this] at h2; cases h2
theorem TopsAt.keep (h : TopsAt w mb base m L S K γ) (hk : ∀ b, base ≤ b → b < w.heap.size → w'.heap[b]? = w.heap[b]?) (hs : w.heap.size ≤ w'.heap.size) : TopsAt w' mb base m L S K γ :=
  ⟨h.map.keep (hk mb h.mb h.map.lt), h.keys, fun p hp => (h.top p hp).keep (fun b hb hl => hk b (h.new p hp b hb) hl) hs, h.new, h.apart, h.mb⟩
theorem TopsAt.ext (h : TopsAt w mb base m L S K γ) (hB : Below w.heap.size w w') : TopsAt w' mb base m L S K γ := h.keep (fun b _ hl => hB.block b hl) hB.size
/-- another block, which isn't the map's nor a top's, is turned -/
theorem TopsAt.only (h : TopsAt w mb base m L S K γ) {gp : Nat → Prop} (ho : Only gp w w') (hm : ¬ gp mb) (hn : ∀ p ∈ K, ∀ k, fpT γ p k → ¬ gp k) : TopsAt w' mb base m L S K γ :=
  ⟨h.map.keep (ho.same mb h.map.lt hm), h.keys, fun p hp => (h.top p hp).keep (fun b hb hl => ho.same b hl (hn p hp b hb)) ho.size, h.new, h.apart, h.mb⟩
theorem TopsAt.nokey (h : TopsAt w mb base m L S K γ) {s : Nat} (hs : s ∉ S) : ∀ x ∈ ents K, ∃ k : Nat, x.key = .int .u32 (k : Nat) ∧ s ≠ k := fun x hx => by
  obtain ⟨p, hp, hk, _⟩ := ents_mem hx
  exact ⟨p.1, hk, fun e => hs (by rw [← h.keys, e]; exact List.mem_map.2 ⟨p, hp, rfl⟩)⟩
/-- a new source's top is put into the map -/
theorem TopsAt.add (h : TopsAt w mb base m L S K γ) {s t : Nat} (hs : s ∉ S) (hL : ofSrc L s = []) (ht : w.heap.size ≤ t) (hb : base ≤ t) {w1 w2 : World} (hB : Below w.heap.size w w1) (hT : TopS w1 t m none [])
    (hM : MapIs w2 mb (ents K ++ [⟨.int .u32 (s : Nat), .pointer (some ⟨t, 0, none⟩), K.length⟩]) (K.length + 1)) (ho : Only (fun k => k = mb) w1 w2) : TopsAt w2 mb base m L (S ++ [s]) (K ++ [(s, t)]) (fun k => if k = t then none else γ k) := by
  have hne : ∀ p ∈ K, p.2 ≠ t := fun p hp e => by have := (h.lt hp (.inl rfl)).1; omega
  have hfp : ∀ p ∈ K, ∀ k, fpT (fun k => if k = t then none else γ k) p k ↔ fpT γ p k := fun p hp k => by
    unfold fpT
    simp only [if_neg (hne p hp)]
  have hft : ∀ k, fpT (fun k => if k = t then none else γ k) (s, t) k ↔ k = t := fun k => by
    unfold fpT
    simp
  have htm : t ≠ mb := fun e => by have := h.map.lt; omega
  refine ⟨?_, ?_, fun p hp => ?_, fun p hp k hk => ?_, fun p hp q hq hpq k hk hk2 => ?_, h.mb⟩
  · rw [ents_snoc, List.length_append, List.length_singleton]; exact hM
  · rw [List.map_append, h.keys]; rfl
  · rcases List.mem_append.1 hp with hp | hp
    · simp only [if_neg (hne p hp)]
      have h1 := (h.top p hp).ext hB
      exact h1.keep (fun b hb hl => ho.same b hl (h.lt hp hb).2) ho.size
    · rw [List.mem_singleton] at hp
      subst hp
      simp only [if_true, hL]
      refine hT.keep (fun b hb hl => ho.same b hl ?_) ho.size
      rcases hb with rfl | hb
      · exact htm
      · cases hb
  · rcases List.mem_append.1 hp with hp | hp
    · exact h.new p hp k ((hfp p hp k).1 hk)
    · rw [List.mem_singleton] at hp
      subst hp
      rw [(hft k).1 hk]; exact hb
  · rcases List.mem_append.1 hp with hp | hp
    · rcases List.mem_append.1 hq with hq | hq
      · exact h.apart p hp q hq hpq k ((hfp p hp k).1 hk) ((hfp q hq k).1 hk2)
      · rw [List.mem_singleton] at hq
        subst hq
        have e := (hft k).1 hk2
        have := (h.lt hp ((hfp p hp k).1 hk)).1
        omega
    · rw [List.mem_singleton] at hp
      subst hp
      have e := (hft k).1 hk
      rcases List.mem_append.1 hq with hq | hq
      · have := (h.lt hq ((hfp q hq k).1 hk2)).1
        omega
      · rw [List.mem_singleton] at hq
        subst hq
        exact hpq rfl
/-- a visit is put -/
theorem TopsAt.put (h : TopsAt w mb base m L S K γ) {p : Nat × Nat} (hp : p ∈ K) {x : VisD} (hx : x.1 = p.1) (hn : S.Nodup) (hb : base ≤ w.heap.size) (hr : PutRet p.2 m (γ p.2) (ofSrc L p.1 ++ [x]) w w') : ∃ γ', TopsAt w' mb base m (L ++ [x]) S K γ' := by
  obtain ⟨g', hT, hg', ho⟩ := hr
  have hkey : ∀ q ∈ K, q.1 = p.1 → q = p := fun q hq e => by
    obtain ⟨i, hi, rfl⟩ := List.mem_iff_getElem.1 hq
    obtain ⟨j, hj, rfl⟩ := List.mem_iff_getElem.1 hp
    rw [← h.keys] at hn
    have := fst_inj hn hi hj e
    subst this; rfl
  have hne : ∀ q ∈ K, q ≠ p → q.2 ≠ p.2 := fun q hq hqp e => by
    refine h.apart q hq p hp (fun e1 => hqp (hkey q hq e1)) q.2 (.inl rfl) (.inl e)
  have hgl : ∀ k, γ p.2 = some k → k < w.heap.size := fun k hk => (h.lt hp (.inr hk)).1
  have hfp : ∀ q ∈ K, q ≠ p → ∀ k, fpT (fun k => if k = p.2 then g' else γ k) q k ↔ fpT γ q k := fun q hq hqp k => by
    unfold fpT
    simp only [if_neg (hne q hq hqp)]
  have hfpp : ∀ k, fpT (fun k => if k = p.2 then g' else γ k) p k → fpT γ p k ∨ w.heap.size ≤ k := fun k hk => by
    unfold fpT at hk
    simp only [if_true] at hk
    rcases hk with hk | hk
    · exact .inl (.inl hk)
    · rcases hg' with e | ⟨k', e, hl⟩
      · exact .inl (.inr (e ▸ hk))
      · rw [e] at hk; cases hk; exact .inr hl
  have hmb : ¬ (mb = p.2 ∨ γ p.2 = some mb) := fun e => (h.lt hp e).2 rfl
  refine ⟨fun k => if k = p.2 then g' else γ k, h.map.keep (ho.same mb h.map.lt hmb), h.keys, fun q hq => ?_, fun q hq k hk => ?_, fun q hq r hr hqr k hk hk2 => ?_, h.mb⟩
  · rw [ofSrc_snoc]
    by_cases hqp : q = p
    · subst hqp
      simp only [if_true, if_pos hx]
      exact hT
    · have hq1 : ¬ x.1 = q.1 := fun e => hqp (hkey q hq (e.symm.trans hx))
      rw [if_neg hq1]
      simp only [if_neg (hne q hq hqp)]
      exact (h.top q hq).keep (fun b hb hl => ho.same b hl (fun e => h.apart q hq p hp (fun e1 => hqp (hkey q hq e1)) b hb e)) ho.size
  · by_cases hqp : q = p
    · subst hqp
      rcases hfpp k hk with hk | hk
      · exact h.new q hq k hk
      · omega
    · exact h.new q hq k ((hfp q hq hqp k).1 hk)
  · by_cases hqp : q = p
    · subst hqp
      have hrp : r ≠ q := fun e => hqr (by rw [e])
      have h2 := (hfp r hr hrp k).1 hk2
      rcases hfpp k hk with hk | hk
      · exact h.apart q hq r hr hqr k hk h2
      · have := (h.lt hr h2).1; omega
    · have h1 := (hfp q hq hqp k).1 hk
      by_cases hrp : r = p
      · subst hrp
        rcases hfpp k hk2 with hk2 | hk2
        · exact h.apart q hq r hr hqr k h1 hk2
        · have := (h.lt hq h1).1; omega
      · exact h.apart q hq r hr hqr k h1 ((hfp r hr hrp k).1 hk2)
end
end Go.Proofs.Ytggcmnjllkncaaa
