/- Paths of paths' records, and of those records less one. No program in sight. -/
import Derived.Test.YtbleacpdobjdaaaCorpRefs
namespace Go.Proofs.Ytbleacpdobjdaaa
set_option linter.unusedSimpArgs false
set_option linter.unusedVariables false

theorem told_goes (st : Option PathD) (r : List UInt8) (rs : List (List UInt8)) (h : r.length = 12) (hg : goesOn st (keyOf r).1 (keyOf r).2.1 = true) : told st (r :: rs) = told (addTo st (keyOf r).1 (keyOf r).2.2) rs := by
  conv => lhs; unfold told
  rw [if_neg (by simp [h]), if_pos hg]
theorem told_new (st : Option PathD) (r : List UInt8) (rs : List (List UInt8)) (h : r.length = 12) (hg : goesOn st (keyOf r).1 (keyOf r).2.1 = false) (hs : startsNew st (keyOf r).1 (keyOf r).2.1 = true) :
    told st (r :: rs) = (flushP st ++ (told (some ((keyOf r).1, [(keyOf r).2.2])) rs).1, (told (some ((keyOf r).1, [(keyOf r).2.2])) rs).2) := by
  conv => lhs; unfold told
  rw [if_neg (by simp [h]), if_neg (by simp [hg]), if_pos hs]
theorem told_state (st : Option PathD) (r : List UInt8) (rs : List (List UInt8)) (h : r.length = 12) (hg : goesOn st (keyOf r).1 (keyOf r).2.1 = false) (hs : startsNew st (keyOf r).1 (keyOf r).2.1 = false) : told st (r :: rs) = ([], 13) := by
  unfold told
  rw [if_neg (by simp [h]), if_neg (by simp [hg]), if_neg (by simp [hs])]
/-- a path's records that go on -/
theorem told_pieces (id : Nat) (hid : id < 4294967296) (rest : List (List UInt8)) : ∀ (vs : List Nat) (at0 : List Nat), (∀ v ∈ vs, v < 4294967296) → at0.length + vs.length < 4294967296 →
    told (some (id, at0)) (pieces id at0.length vs ++ rest) = told (some (id, at0 ++ vs)) rest
  | [], at0, _, _ => by simp [pieces]
  | v :: vs, at0, hv, hl => by
    have hk := keyOf_key3 id at0.length v hid (by simp at hl; omega) (hv v (List.mem_cons_self ..))
    have h1 := told_goes (some (id, at0)) (key3 id at0.length v) (pieces id (at0.length + 1) vs ++ rest) rfl (by rw [hk]; simp [goesOn])
    rw [hk] at h1
    have h2 := told_pieces id hid rest vs (at0 ++ [v]) (fun u hu => hv u (List.mem_cons_of_mem _ hu)) (by simp at hl ⊢; omega)
    simp only [addTo, List.length_append, List.length_singleton, List.append_assoc, List.singleton_append] at h1 h2
    rw [show pieces id at0.length (v :: vs) ++ rest = key3 id at0.length v :: (pieces id (at0.length + 1) vs ++ rest) from rfl, h1, h2]
/-- the numbers rise from here on -/
def mayFrom : Option Nat → List PathD → Prop
  | _, [] => True
  | o, p :: ps => p.2 ≠ [] ∧ (∀ i, o = some i → i < p.1) ∧ mayFrom (some p.1) ps
def okData (p : PathD) : Prop := p.1 < 4294967296 ∧ (∀ v ∈ p.2, v < 4294967296) ∧ p.2.length ≤ 60
/-- a path's records, begun -/
theorem told_begin (st : Option PathD) (p : PathD) (rest : List (List UInt8)) (hok : okData p) (hne : p.2 ≠ []) (hst : ∀ q, st = some q → q.1 < p.1) :
    told st (pieces p.1 0 p.2 ++ rest) = (flushP st ++ (told (some p) rest).1, (told (some p) rest).2) := by
  obtain ⟨id, vs⟩ := p
  obtain ⟨h1, h2, h3⟩ := hok
  match vs, hne with
  | v :: vs, _ =>
    have hk := keyOf_key3 id 0 v h1 (by omega) (h2 v (List.mem_cons_self ..))
    have hn := told_new st (key3 id 0 v) (pieces id 1 vs ++ rest) rfl (by
      rw [hk]
      cases st with
      | none => rfl
      | some q => have := hst q rfl; simp only at this; simp only [goesOn]; rw [show (id == q.1) = false from beq_eq_false_iff_ne.2 (by omega)]; rfl) (by
      rw [hk]
      cases st with
      | none => rfl
      | some q => have := hst q rfl; simp only at this; simp [startsNew, this])
    rw [hk] at hn
    have hp := told_pieces id h1 rest vs [v] (fun u hu => h2 u (List.mem_cons_of_mem _ hu)) (by simp at h3 ⊢; omega)
    simp only [List.length_singleton, List.singleton_append] at hp
    rw [show pieces id 0 (v :: vs) ++ rest = key3 id 0 v :: (pieces id 1 vs ++ rest) from rfl, hn, hp]
def emitP : Option PathD → List PathD → List PathD
  | _, [] => []
  | st, p :: ps => flushP st ++ emitP (some p) ps
def lastP : Option PathD → List PathD → Option PathD
  | st, [] => st
  | _, p :: ps => lastP (some p) ps
theorem emit_last : ∀ (l : List PathD) (st : Option PathD), emitP st l ++ flushP (lastP st l) = flushP st ++ l
  | [], st => by simp [emitP, lastP]
  | p :: ps, st => by
    have := emit_last ps (some p)
    simp only [emitP, lastP, List.append_assoc]
    rw [this]; rfl
theorem told_recs (rest : List (List UInt8)) : ∀ (l : List PathD) (st : Option PathD), (∀ p ∈ l, okData p) → mayFrom (st.map (·.1)) l →
    told st (recsOf l ++ rest) = (emitP st l ++ (told (lastP st l) rest).1, (told (lastP st l) rest).2)
  | [], st, _, _ => by simp [recsOf, emitP, lastP]
  | p :: ps, st, hok, ⟨h1, h2, h3⟩ => by
    have hb := told_begin st p (recsOf ps ++ rest) (hok p (List.mem_cons_self ..)) h1 (fun q hq => h2 q.1 (by rw [hq]; rfl))
    have ht := told_recs rest ps (some p) (fun q hq => hok q (List.mem_cons_of_mem _ hq)) h3
    rw [show recsOf (p :: ps) ++ rest = pieces p.1 0 p.2 ++ (recsOf ps ++ rest) by simp [recsOf], hb, ht]
    simp [emitP, lastP]
theorem told_whole (l : List PathD) (hok : ∀ p ∈ l, okData p) (hm : mayFrom none l) : told none (recsOf l) = (l, 0) := by
  have h := told_recs [] l none hok hm
  rw [List.append_nil] at h
  rw [h]
  have := emit_last l none
  simp only [told]
  rw [this]; rfl
theorem paths_whole (l : List PathD) (hok : ∀ p ∈ l, okData p) (hm : mayFrom none l) : paths (recsOf l) = (l, 0) := by
  rw [paths_told, told_whole l hok hm]; rfl

theorem okAt_tail {p : PathD} {l : List PathD} {j : Nat} (h : okAt (p :: l) (j + 1)) : j < l.length → okAt l j := fun hj => by
  obtain ⟨h1, h2, h3⟩ := h
  refine ⟨hj, by simpa using h2, fun h0 => ?_⟩
  have := h3 (by omega)
  obtain ⟨i, rfl⟩ : ∃ i, j = i + 1 := ⟨j - 1, by omega⟩
  simpa using this
theorem may_from : ∀ (l : List PathD) (o : Option Nat), MayP l → (∀ i p, o = some i → l.head? = some p → i < p.1) → mayFrom o l
  | [], _, _, _ => trivial
  | p :: ps, o, h, ho => by
    obtain ⟨_, h2, _⟩ := h 0 (by simp)
    refine ⟨fun e => h2 (by simp [e]), fun i hi => ho i p hi rfl, may_from ps (some p.1) (fun j hj => okAt_tail (h (j + 1) (by simp; omega)) hj) (fun i q hi hq => ?_)⟩
    cases hi
    match ps, hq with
    | q' :: qs, hq =>
      simp only [List.head?_cons, Option.some.injEq] at hq
      subst hq
      obtain ⟨_, _, h3⟩ := h 1 (by simp)
      simpa using h3 (by omega)

/-- where a record stands -/
theorem recs_find : ∀ (l : List PathD) (n : Nat), n < (recsOf l).length → ∃ pre p post j, l = pre ++ p :: post ∧ j < p.2.length ∧ n = (recsOf pre).length + j
  | [], n, h => by simp [recsOf] at h
  | p :: ps, n, h => by
    by_cases hn : n < p.2.length
    · exact ⟨[], p, ps, n, rfl, hn, by simp [recsOf]⟩
    · have hl : (recsOf (p :: ps)).length = p.2.length + (recsOf ps).length := by
        simp only [recsOf, List.flatMap_cons, List.length_append, pieces_len]
      obtain ⟨pre, q, post, j, h1, h2, h3⟩ := recs_find ps (n - p.2.length) (by omega)
      refine ⟨p :: pre, q, post, j, by rw [h1]; rfl, h2, ?_⟩
      have : (recsOf (p :: pre)).length = p.2.length + (recsOf pre).length := by
        simp only [recsOf, List.flatMap_cons, List.length_append, pieces_len]
      omega
theorem pieces_app (id : Nat) : ∀ (a b : List Nat) (k : Nat), pieces id k (a ++ b) = pieces id k a ++ pieces id (k + a.length) b
  | [], b, k => by simp [pieces]
  | x :: a, b, k => by simp [pieces, pieces_app id a b, Nat.add_assoc, Nat.add_comm 1]
theorem recs_app (a b : List PathD) : recsOf (a ++ b) = recsOf a ++ recsOf b := by simp [recsOf]
theorem recs_cons (p : PathD) (l : List PathD) : recsOf (p :: l) = pieces p.1 0 p.2 ++ recsOf l := by simp [recsOf]
/-- the bytes that tell the step -/
def step4 (r : List UInt8) : List UInt8 := (r.drop 4).take 4
theorem step4_key (a b c : Nat) (hb : b < 4294967296) : step4 (key3 a b c) = [0, 0, 0, 0] ↔ b = 0 := by
  rw [show step4 (key3 a b c) = be4 b from rfl]
  constructor
  · intro h
    have := num4_be4 b hb
    rw [h] at this
    exact this.symm
  · rintro rfl; rfl
theorem mayFrom_app : ∀ (a b : List PathD) (o : Option Nat), mayFrom o (a ++ b) → mayFrom o a ∧ mayFrom ((lastP (o.map (fun i => (i, []))) a).map (·.1)) b
  | [], b, o, h => ⟨trivial, by cases o <;> exact h⟩
  | p :: a, b, o, ⟨h1, h2, h3⟩ => by
    obtain ⟨h4, h5⟩ := mayFrom_app a b (some p.1) h3
    refine ⟨⟨h1, h2, h4⟩, ?_⟩
    cases a with
    | nil => exact h5
    | cons q qs => exact h5
theorem told_step_bad (st : Option PathD) (id k v : Nat) (rest : List (List UInt8)) (h1 : id < 4294967296) (h2 : k < 4294967296) (h3 : v < 4294967296) (hk : k ≠ 0) (hst : ∀ q, st = some q → q.1 = id → q.2.length ≠ k) :
    told st (key3 id k v :: rest) = ([], 13) := by
  refine told_state st _ rest rfl ?_ ?_ <;> rw [keyOf_key3 id k v h1 h2 h3]
  · cases st with
    | none => rfl
    | some q =>
      simp only [goesOn]
      by_cases h : q.1 = id
      · have := hst q rfl h
        rw [show (k == q.2.length) = false from beq_eq_false_iff_ne.2 (by omega)]; simp
      · rw [show (id == q.1) = false from beq_eq_false_iff_ne.2 (by omega)]; rfl
  · simp [startsNew, hk]
theorem lastP_mem : ∀ (l : List PathD) (st : Option PathD) (q : PathD), lastP st l = some q → st = some q ∨ q ∈ l
  | [], st, q, h => .inl h
  | p :: ps, st, q, h => by
    rcases lastP_mem ps (some p) q h with h | h
    · cases h; right; simp
    · right; simp [h]
theorem lastP_lt : ∀ (l : List PathD) (p : PathD) (post : List PathD) (o : Option PathD), mayFrom (o.map (·.1)) (l ++ p :: post) → ∀ q, lastP o l = some q → q.1 < p.1
  | [], p, post, o, ⟨_, h2, _⟩, q, hq => h2 q.1 (by simp only [lastP] at hq; rw [hq]; rfl)
  | x :: l, p, post, o, ⟨_, _, h3⟩, q, hq => lastP_lt l p post (some x) h3 q hq
theorem mayFrom_swap : ∀ (l : List PathD) (p p' : PathD) (post : List PathD) (o : Option Nat), p'.1 = p.1 → p'.2 ≠ [] → mayFrom o (l ++ p :: post) → mayFrom o (l ++ p' :: post)
  | [], p, p', post, o, e, hn, ⟨_, h2, h3⟩ => ⟨hn, fun i hi => by rw [e]; exact h2 i hi, by rw [e]; exact h3⟩
  | x :: l, p, p', post, o, e, hn, ⟨h1, h2, h3⟩ => ⟨h1, h2, mayFrom_swap l p p' post _ e hn h3⟩
theorem mayFrom_lower : ∀ (l : List PathD) (o o' : Option Nat), (∀ i, o' = some i → ∃ j, o = some j ∧ i ≤ j) → mayFrom o l → mayFrom o' l
  | [], _, _, _, _ => trivial
  | p :: l, o, o', h, ⟨h1, h2, h3⟩ => ⟨h1, fun i hi => by obtain ⟨j, hj, hij⟩ := h i hi; have := h2 j hj; omega, h3⟩
theorem mayFrom_cut : ∀ (l : List PathD) (p : PathD) (post : List PathD) (o : Option Nat), mayFrom o (l ++ p :: post) → mayFrom o (l ++ post)
  | [], p, post, o, ⟨_, h2, h3⟩ => mayFrom_lower post (some p.1) o (fun i hi => ⟨p.1, rfl, by have := h2 i hi; omega⟩) h3
  | x :: l, p, post, o, ⟨h1, h2, h3⟩ => ⟨h1, h2, mayFrom_cut l p post _ h3⟩

/-- **the records less one** -/
theorem gaps_plain (l : List PathD) (hok : ∀ p ∈ l, okData p) (hm : MayP l) (n : Nat) (hn : n < (recsOf l).length) :
    ∃ (f s : Bool), (step4 (recsOf l)[n] = [0, 0, 0, 0] ↔ f = true) ∧ (n + 1 = (recsOf l).length → s = true) ∧ (∀ h : n + 1 < (recsOf l).length, step4 (recsOf l)[n + 1] = [0, 0, 0, 0] ↔ s = true) ∧
      ∃ m e, paths ((recsOf l).take n ++ (recsOf l).drop (n + 1)) = (m, e) ∧ ((s = true ∧ f = false ∧ e = 0 ∧ m.length = l.length) ∨ (s = true ∧ f = true ∧ e = 0 ∧ m.length + 1 = l.length) ∨ (s = false ∧ e = 13 ∧ m = [])) := by
  have hmf := may_from l none hm (fun i p h => by cases h)
  obtain ⟨pre, p, post, j, rfl, hj, rfl⟩ := recs_find l n hn
  obtain ⟨hp1, hp2, hp3⟩ := hok p (by simp)
  have hsplit : p.2 = p.2.take j ++ p.2[j] :: p.2.drop (j + 1) := by
    rw [← List.drop_eq_getElem_cons hj, List.take_append_drop]
  have hjl : (p.2.take j).length = j := by rw [List.length_take]; omega
  have hps : pieces p.1 0 p.2 = pieces p.1 0 (p.2.take j) ++ key3 p.1 j p.2[j] :: pieces p.1 (j + 1) (p.2.drop (j + 1)) := by
    conv => lhs; rw [hsplit]
    rw [pieces_app, hjl, Nat.zero_add]; rfl
  have hR : recsOf (pre ++ p :: post) = (recsOf pre ++ pieces p.1 0 (p.2.take j)) ++ key3 p.1 j p.2[j] :: (pieces p.1 (j + 1) (p.2.drop (j + 1)) ++ recsOf post) := by
    rw [recs_app, recs_cons, hps]; simp
  have hX : (recsOf pre ++ pieces p.1 0 (p.2.take j)).length = (recsOf pre).length + j := by rw [List.length_append, pieces_len, hjl]
  have hpre : ∀ q ∈ pre, okData q := fun q hq => hok q (by simp [hq])
  have hpost : ∀ q ∈ post, okData q := fun q hq => hok q (by simp [hq])
  have hmpre := (mayFrom_app pre (p :: post) none hmf).1
  refine ⟨decide (j = 0), decide (j + 1 = p.2.length), ?_, ?_, ?_, ?_⟩
  · rw [List.getElem_of_eq hR, List.getElem_append_right (by omega)]
    simp only [hX, Nat.sub_self, List.getElem_cons_zero]
    rw [step4_key _ _ _ (by omega)]; simp
  · intro h
    rw [hR, List.length_append, hX, List.length_cons, List.length_append, pieces_len, List.length_drop] at h
    exact decide_eq_true (by omega)
  · intro h
    rw [List.getElem_of_eq hR, List.getElem_append_right (by omega)]
    simp only [hX, show (recsOf pre).length + j + 1 - ((recsOf pre).length + j) = 1 by omega, List.getElem_cons_succ]
    suffices hs : ∀ y, (pieces p.1 (j + 1) (p.2.drop (j + 1)) ++ recsOf post)[0]? = some y → (step4 y = [0, 0, 0, 0] ↔ decide (j + 1 = p.2.length) = true) from hs _ (List.getElem?_eq_getElem _)
    intro y hy
    by_cases hjn : j + 1 = p.2.length
    · rw [show p.2.drop (j + 1) = [] from List.drop_eq_nil_of_le (by omega)] at hy
      simp only [pieces, List.nil_append] at hy
      match post, hmf, hy with
      | q :: qs, hmf, hy =>
        have hq := (mayFrom_app pre (p :: q :: qs) none hmf).2.2.2.1
        obtain ⟨id, vs⟩ := q
        match vs, hq, hy with
        | v :: vs, _, hy =>
          rw [recs_cons] at hy
          simp only [pieces, List.cons_append, List.getElem?_cons_zero, Option.some.injEq] at hy
          subst hy
          rw [step4_key _ _ _ (by omega)]
          simp [hjn]
    · have hlt : j + 1 < p.2.length := by omega
      rw [show p.2.drop (j + 1) = p.2[j + 1] :: p.2.drop (j + 2) from List.drop_eq_getElem_cons hlt] at hy
      simp only [pieces, List.cons_append, List.getElem?_cons_zero, Option.some.injEq] at hy
      subst hy
      rw [step4_key _ _ _ (by omega)]
      simp [hjn]
  · have hT : (recsOf (pre ++ p :: post)).take ((recsOf pre).length + j) ++ (recsOf (pre ++ p :: post)).drop ((recsOf pre).length + j + 1) = recsOf pre ++ (pieces p.1 0 (p.2.take j) ++ (pieces p.1 (j + 1) (p.2.drop (j + 1)) ++ recsOf post)) := by
      rw [hR]
      generalize hXe : recsOf pre ++ pieces p.1 0 (p.2.take j) = X at hX
      rw [← hX, List.take_left, ← List.drop_drop, List.drop_left, List.drop_one, List.tail_cons, ← hXe]
      simp
    rw [hT]
    by_cases hjn : j + 1 = p.2.length
    · rw [show p.2.drop (j + 1) = [] from List.drop_eq_nil_of_le (by omega)]
      simp only [pieces, List.nil_append]
      by_cases h0 : j = 0
      · subst h0
        refine ⟨pre ++ post, 0, ?_, .inr (.inl ⟨by simp [hjn], by simp, rfl, by simp; omega⟩)⟩
        simp only [List.take_zero, pieces, List.nil_append]
        rw [← recs_app]
        exact paths_whole _ (fun q hq => (List.mem_append.1 hq).elim (hpre q) (hpost q)) (mayFrom_cut pre p post none hmf)
      · refine ⟨pre ++ (p.1, p.2.take j) :: post, 0, ?_, .inl ⟨by simp [hjn], by simp [h0], rfl, by simp⟩⟩
        have e : recsOf pre ++ (pieces p.1 0 (p.2.take j) ++ recsOf post) = recsOf (pre ++ (p.1, p.2.take j) :: post) := by rw [recs_app, recs_cons]
        rw [e]
        refine paths_whole _ (fun q hq => ?_) (mayFrom_swap pre p _ post none rfl (fun h => by have := congrArg List.length h; simp only [hjl, List.length_nil] at this; exact h0 this) hmf)
        rcases List.mem_append.1 hq with h | h
        · exact hpre q h
        · rcases List.mem_cons.1 h with rfl | h
          · exact ⟨hp1, fun v hv => hp2 v (List.mem_of_mem_take hv), by rw [hjl]; omega⟩
          · exact hpost q h
    · have hlt : j + 1 < p.2.length := by omega
      refine ⟨[], 13, ?_, .inr (.inr ⟨by simp [hjn], rfl, rfl⟩)⟩
      rw [show p.2.drop (j + 1) = p.2[j + 1] :: p.2.drop (j + 2) from List.drop_eq_getElem_cons hlt]
      have hv1 := hp2 _ (List.getElem_mem hlt)
      suffices h : ∃ m, told none (recsOf pre ++ (pieces p.1 0 (p.2.take j) ++ (pieces p.1 (j + 1) (p.2[j + 1] :: p.2.drop (j + 2)) ++ recsOf post))) = (m, 13) by
        obtain ⟨m, h⟩ := h
        rw [paths_told, h]; rfl
      rw [told_recs _ pre none hpre hmpre]
      have hl := lastP_lt pre p post none hmf
      by_cases h0 : j = 0
      · subst h0
        simp only [List.take_zero, pieces, List.nil_append, List.cons_append]
        rw [told_step_bad _ _ _ _ _ hp1 (by omega) hv1 (by omega) (fun q hq e => by have := hl q hq; omega)]
        exact ⟨_, rfl⟩
      · rw [told_begin _ (p.1, p.2.take j) _ ⟨hp1, fun v hv => hp2 v (List.mem_of_mem_take hv), by rw [hjl]; omega⟩ (fun h => by have := congrArg List.length h; simp only [hjl, List.length_nil] at this; exact h0 this) hl]
        simp only [pieces, List.cons_append]
        rw [told_step_bad _ _ _ _ _ hp1 (by omega) hv1 (by omega) (fun q hq e => by cases hq; simp only [hjl]; omega)]
        exact ⟨_, rfl⟩
end Go.Proofs.Ytbleacpdobjdaaa
