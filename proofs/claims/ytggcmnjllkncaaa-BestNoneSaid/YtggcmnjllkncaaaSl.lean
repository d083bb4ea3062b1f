/- Slices that a call owns, append to them from whatever source, and slices that are only read. No program in sight. -/
import Derived.Test.YtggcmnjllkncaaaRange
import Derived.Deep.AppendSrc
namespace Go.Proofs.Ytggcmnjllkncaaa
set_option linter.unusedSimpArgs false
set_option linter.unusedVariables false
set_option maxRecDepth 100000
open Go.RowKit

/-- A slice type, its element type, that type's cells and bytes and zero. -/
structure Elem (P : Program) (t e : TypeId) (size bytes : Nat) (z : Value) : Prop where
  ht : P.underlying t = some (.slice e)
  hi : ∃ i, P.info? e = some i ∧ i.zero = some z ∧ i.size = size ∧ i.bytes = bytes
  hz : z.cells.size = size
  pos : 0 < size
theorem Elem.mk' {P : Program} {t e : TypeId} {size bytes : Nat} {z : Value} (h1 : P.underlying t = some (.slice e)) (h2 : (P.info? e).map (fun i => (i.zero, i.size, i.bytes)) = some (some z, size, bytes)) (h3 : z.cells.size = size) (h4 : 0 < size) : Elem P t e size bytes z :=
  ⟨h1, info_parts h2, h3, h4⟩

/-- 'the slice value .slice ao n cap has the elements' cells xs, and they lie in the block g (none: nil), which is the caller's own' -/
def Own (w : World) (ao : Option Addr) (cap : Nat) (g : Option Nat) (e : TypeId) (size n : Nat) (xs : List Value) : Prop :=
  xs.length = n * size ∧
  ((ao = none ∧ cap = 0 ∧ n = 0 ∧ g = none) ∨
   ∃ b cur, g = some b ∧ ao = some ⟨b, 0, none⟩ ∧ w.heap[b]? = some (.cells cur e (0, 0)) ∧ n ≤ cap ∧ cap ≤ maxLen ∧ cur.size = cap * size ∧ cur.toList.take (n * size) = xs)

theorem Own.nil (w : World) (e : TypeId) (size : Nat) : Own w none 0 none e size 0 [] := ⟨by simp, .inl ⟨rfl, rfl, rfl, rfl⟩⟩

section
variable {w w' : World} {ao : Option Addr} {cap : Nat} {g : Option Nat} {e : TypeId} {size n : Nat} {xs : List Value}

theorem Own.keep (h : Own w ao cap g e size n xs) (hk : ∀ b, g = some b → w'.heap[b]? = w.heap[b]?) : Own w' ao cap g e size n xs := by
  refine ⟨h.1, ?_⟩
  rcases h.2 with h2 | ⟨b, cur, hg, ha, hh, r⟩
  · exact .inl h2
  · exact .inr ⟨b, cur, hg, ha, (hk b hg).trans hh, r⟩
theorem Own.lt (h : Own w ao cap g e size n xs) : ∀ b, g = some b → b < w.heap.size := by
  intro b hb
  rcases h.2 with ⟨_, _, _, hg⟩ | ⟨b', cur, hg, ha, hh, r⟩
  · rw [hg] at hb; cases hb
  · rw [hg] at hb; cases hb; exact (Array.getElem?_eq_some_iff.1 hh).1
theorem Own.ext (h : Own w ao cap g e size n xs) (hb : Below w.heap.size w w') : Own w' ao cap g e size n xs :=
  h.keep fun b hg => hb.block b (h.lt b hg)
theorem Own.alloc (h : Own w ao cap g e size n xs) (o : Obj) : Own (w.alloc o) ao cap g e size n xs := h.ext (ext_alloc _ _)
theorem Own.setCell (h : Own w ao cap g e size n xs) {p : Addr} (hp : ∀ b, g = some b → b ≠ p.block) (v : Value) : Own (w.setCell p v) ao cap g e size n xs :=
  h.keep fun b hg => Below.heap_setCell _ _ _ _ (hp b hg)
theorem Own.stays {fp : Nat → Prop} (h : Own w ao cap g e size n xs) (hs : Stays fp w w') (hf : ∀ b, g = some b → fp b) : Own w' ao cap g e size n xs :=
  h.keep fun b hg => hs.same b (hf b hg)
theorem Own.only {fp : Nat → Prop} (h : Own w ao cap g e size n xs) (hs : Only fp w w') (hf : ∀ b, g = some b → ¬ fp b) : Own w' ao cap g e size n xs :=
  h.keep fun b hg => hs.same b (h.lt b hg) (hf b hg)
theorem Own.len (h : Own w ao cap g e size n xs) : xs.length = n * size := h.1
theorem Own.capLe (h : Own w ao cap g e size n xs) : n ≤ cap ∧ cap ≤ maxLen := by
  rcases h.2 with ⟨_, hc, hn, _⟩ | ⟨b, cur, _, _, _, h1, h2, _⟩
  · subst hc; subst hn; exact ⟨Nat.le_refl _, by simp [maxLen]⟩
  · exact ⟨h1, h2⟩
/-- where something is owned, it has an address -/
theorem Own.pos (h : Own w ao cap g e size n xs) (hn : 0 < n) : ∃ b, g = some b ∧ ao = some ⟨b, 0, none⟩ ∧ b < w.heap.size := by
  rcases h.2 with ⟨_, _, hn0, _⟩ | ⟨b, cur, hg, ha, hh, _⟩
  · omega
  · exact ⟨b, hg, ha, (Array.getElem?_eq_some_iff.1 hh).1⟩
theorem Own.addr (h : Own w ao cap g e size n xs) : (ao = none ∧ g = none ∧ n = 0 ∧ cap = 0) ∨ ∃ b, g = some b ∧ ao = some ⟨b, 0, none⟩ ∧ b < w.heap.size := by
  rcases h.2 with ⟨h1, hc, hn0, h2⟩ | ⟨b, cur, hg, ha, hh, _⟩
  · exact .inl ⟨h1, h2, hn0, hc⟩
  · exact .inr ⟨b, hg, ha, (Array.getElem?_eq_some_iff.1 hh).1⟩
theorem Own.cell {b : Nat} (h : Own w (some ⟨b, 0, none⟩) cap g e size n xs) (j : Nat) (hj : j < n * size) : w.cell? ⟨b, j, none⟩ = xs[j]? := by
  rcases h.2 with ⟨h1, _⟩ | ⟨b', cur, hg, ha, hh, hn, hc, hs, ht⟩
  · cases h1
  · cases ha
    rw [cell_of_row w b j cur e (0, 0) hh, ← ht, List.getElem?_take, if_pos hj]
    simp
theorem Own.frozen {b : Nat} (h : Own w (some ⟨b, 0, none⟩) cap g e size n xs) (j : Nat) : w.frozen? ⟨b, j, none⟩ = false := by
  rcases h.2 with ⟨h1, _⟩ | ⟨b', cur, hg, ha, hh, _⟩
  · cases h1
  · cases ha
    simp [World.frozen?, hh]
end

/-! ### cells set one by one -/
def setsAt (cur : Array Value) : Nat → List Value → Array Value
  | _, [] => cur
  | o, v :: r => setsAt (cur.setIfInBounds o v) (o + 1) r
theorem setsAt_size : ∀ (vs : List Value) (o : Nat) (cur : Array Value), (setsAt cur o vs).size = cur.size
  | [], _, _ => rfl
  | v :: r, o, cur => by rw [setsAt, setsAt_size r]; simp
theorem setsAt_take : ∀ (vs : List Value) (o : Nat) (cur : Array Value), o + vs.length ≤ cur.size → (setsAt cur o vs).toList.take (o + vs.length) = cur.toList.take o ++ vs
  | [], o, cur, _ => by simp [setsAt]
  | v :: r, o, cur, h => by
    simp only [List.length_cons] at h ⊢
    have ih := setsAt_take r (o + 1) (cur.setIfInBounds o v) (by simp; omega)
    rw [setsAt, show o + (r.length + 1) = o + 1 + r.length from by omega, ih, Array.toList_setIfInBounds]
    have ho : o < cur.toList.length := by simp; omega
    rw [List.take_succ_eq_append_getElem (by rw [List.length_set]; exact ho), List.take_set_of_le (Nat.le_refl _)]
    simp
theorem heap_setCells_in (b : Nat) (e : TypeId) (fr : Nat × Nat) : ∀ (vs : List Value) (o : Nat) (w : World) (cur : Array Value), w.heap[b]? = some (.cells cur e fr) → (w.setCells b o vs).heap[b]? = some (.cells (setsAt cur o vs) e fr)
  | [], _, _, _, h => h
  | v :: r, o, w, cur, h => by
    rw [World.setCells, setsAt]
    refine heap_setCells_in b e fr r (o + 1) _ _ ?_
    show (w.heap.modify b _)[b]? = _
    rw [Array.getElem?_modify, if_pos rfl, h]
    rfl
theorem only_setCells (b : Nat) : ∀ (vs : List Value) (o : Nat) (w : World), Only (fun k => k = b) w (w.setCells b o vs)
  | [], _, w => Only.refl _ _
  | v :: r, o, w => ((Only.refl (fun k => k = b) w).setCell (p := ⟨b, o, none⟩) (fun _ => rfl) v).trans (only_setCells b r (o + 1) _) (fun _ _ h => h)

/-- **APPEND TO WHAT THE CALL OWNS, FROM WHATEVER SOURCE.** -/
theorem run_app {P : Program} {w : World} {t tx ty e : TypeId} {size bytes : Nat} {z : Value} (hE : Elem P t e size bytes z) {ao : Option Addr} {cap : Nat} {g : Option Nat} {n : Nat} {xs : List Value} (ho : Own w ao cap g e size n xs)
    {x : Value} {m : Nat} {news : List Value} (hs : Src P size tx x m news w) (h63 : n + m ≤ maxLen) (hb : (n + m) * bytes ≤ 140737488355328) :
    ∃ ao' cap' g' w', (Builtin.append_ #[t, tx] ty #[.slice ao n cap, x]).run P w = .ok (.slice ao' (n + m) cap') w' ∧ Own w' ao' cap' g' e size (n + m) (xs ++ news) ∧
      (g' = g ∨ g' = some w.heap.size) ∧ Only (fun k => g = some k) w w' := by
  obtain ⟨i, hi, hz, hsz, hby⟩ := hE.hi
  subst hsz
  subst hby
  have hsmall : n + m ≤ 9223372036854775807 := by simp only [maxLen] at h63; omega
  have hlen : (xs ++ news).length = (n + m) * i.size := by rw [List.length_append, ho.1, hs.newsLen, Nat.add_mul]
  by_cases hroom : n + m ≤ cap
  · rcases ho.2 with ⟨rfl, hc, hn0, rfl⟩ | ⟨b, cur, rfl, rfl, hh, hn, hcm, hcs, ht⟩
    · -- nil, and nothing is appended
      have hm : m = 0 := by omega
      subst hm; subst hn0; subst hc
      have hnews : news = [] := List.eq_nil_of_length_eq_zero (by simpa using hs.newsLen)
      have hxs : xs = [] := List.eq_nil_of_length_eq_zero (by simpa using ho.1)
      subst hnews; subst hxs
      refine ⟨none, 0, none, w, ?_, Own.nil w e i.size, .inl rfl, Only.refl _ _⟩
      have hst := run_storeCells_cells (P := P) 0 0 [] 0 w (by simp) (by simp) (by simp)
      rcases hs.kind with ⟨e', hk⟩ | hk <;> simp [Builtin.append_, run_underlying hE.ht, run_underlying hk, sizeOf, typeInfo, hi, hs.len, hs.cells]
    · have hfit : n * i.size + news.length ≤ cur.size := by rw [hs.newsLen, hcs, ← Nat.add_mul]; exact Nat.mul_le_mul_right _ hroom
      have hr := run_append_room_src (P := P) w t tx ty e i hE.ht hi b 0 n cap x m news hs hroom
        (fun j hj => by rw [cell_of_row w b _ cur e (0, 0) hh, Array.getElem?_eq_getElem (by omega)]; rfl)
        (fun j hj => by simp [World.frozen?, hh])
      refine ⟨_, _, some b, _, hr, ⟨hlen, .inr ⟨b, setsAt cur (0 + n * i.size) news, rfl, rfl, heap_setCells_in b e (0, 0) news _ w cur hh, hroom, hcm, by rw [setsAt_size, hcs], ?_⟩⟩, .inl rfl,
        (only_setCells b news _ w).mono (fun k _ hk => by rw [hk])⟩
      have h1 := setsAt_take news (0 + n * i.size) cur (by omega)
      rw [Nat.add_mul, ← hs.newsLen]
      rw [Nat.zero_add] at h1 ⊢
      rw [h1, ht]
  · have hcn : n ≤ cap := ho.capLe.1
    have hold : (Builtin.firstCells i.size n (.slice ao n cap)).run P w.drew = .ok xs.toArray w.drew := by
      rcases ho.2 with ⟨rfl, hc, hn0, rfl⟩ | ⟨b, cur, rfl, rfl, hh, hn, hcm, hcs, ht⟩
      · subst hn0
        have hxs : xs = [] := List.eq_nil_of_length_eq_zero (by simpa using ho.1)
        subst hxs
        exact run_firstCells_none w.drew i.size 0 0 cap
      · refine run_firstCells_some w.drew i.size n ⟨b, 0, none⟩ n cap xs ho.1 (fun j v hv => ?_)
        have hj : j < n * i.size := by rw [← ho.1]; exact (List.getElem?_eq_some_iff.1 hv).1
        rw [Addr.add_lit, Nat.zero_add]
        show w.cell? _ = _
        rw [ho.cell j hj, hv]
    have hr := run_append_grow_src (P := P) w t tx ty e i z hE.ht hi hz ao n cap xs hold x m news hs (by omega) (by omega)
      (growslice_fits (by omega) hb)
    have hge := grownCap_ge w (n + m) cap e
    refine ⟨_, _, some w.heap.size, _, hr, ⟨hlen, .inr ⟨w.heap.size, _, rfl, rfl, heap_alloc_new w.drew _, hge, grownCap_le_maxLen w (n + m) cap e h63, ?_, ?_⟩⟩, .inr rfl, ((Only.refl _ w).drew).alloc _⟩
    · simp only [Array.size_append, List.size_toArray, size_zeroCells, hE.hz, hlen, ← Nat.add_mul]
      congr 1
      omega
    · simp only [Array.toList_append]
      rw [← hlen]
      exact List.take_left

section
variable {P : Program} {w : World} {ops : Array Oper} {rest : List Oper} {o : Oper} {a : Act} {Q : Exit → Act → World → Prop}
theorem wpList_app (hg : o.guard = none) (s x : Operand) (t tx : TypeId) (hop : o.op = Op.call { callee := Callee.builtin Builtin.append, args := #[s, x], argTypes := #[t, tx] })
    {e : TypeId} {size bytes : Nat} {z : Value} (hE : Elem P t e size bytes z) {ao : Option Addr} {cap : Nat} {g : Option Nat} {n : Nat} {xs : List Value} (ho : Own w ao cap g e size n xs) (hs : a.eval s = .slice ao n cap)
    {xv : Value} {m : Nat} {news : List Value} (hx : a.eval x = xv) (hsrc : Src P size tx xv m news w) (h63 : n + m ≤ maxLen) (hb : (n + m) * bytes ≤ 140737488355328)
    (hK : ∀ ao' cap' g' w', Own w' ao' cap' g' e size (n + m) (xs ++ news) → (g' = g ∨ g' = some w.heap.size) → Only (fun k => g = some k) w w' → wpList P ops Q rest (a.put o.dst (.slice ao' (n + m) cap')) w') :
    wpList P ops Q (o :: rest) a w := by
  refine wpList_plain hg fun K hK' => ?_
  obtain ⟨ao', cap', g', w', hrun, r1, r2, r3⟩ := run_app (ty := o.type) hE ho hsrc h63 hb
  unfold Oper.wp
  simp [execOp, hop, resolve, invoke, builtin, hs, hx, hrun, Result.andThen]
  exact hK' _ _ (hK ao' cap' g' w' r1 r2 r3)
theorem wpListIn_app {F : Fence} {k : Nat} (hg : o.guard = none) (s x : Operand) (t tx : TypeId) (hop : o.op = Op.call { callee := Callee.builtin Builtin.append, args := #[s, x], argTypes := #[t, tx] })
    {e : TypeId} {size bytes : Nat} {z : Value} (hE : Elem P t e size bytes z) {ao : Option Addr} {cap : Nat} {g : Option Nat} {n : Nat} {xs : List Value} (ho : Own w ao cap g e size n xs) (hs : a.eval s = .slice ao n cap)
    {xv : Value} {m : Nat} {news : List Value} (hx : a.eval x = xv) (hsrc : Src P size tx xv m news w) (h63 : n + m ≤ maxLen) (hb : (n + m) * bytes ≤ 140737488355328)
    (hK : ∀ ao' cap' g' w', Own w' ao' cap' g' e size (n + m) (xs ++ news) → (g' = g ∨ g' = some w.heap.size) → Only (fun k => g = some k) w w' → wpListIn F k P ops Q rest (a.put o.dst (.slice ao' (n + m) cap')) w') :
    wpListIn F k P ops Q (o :: rest) a w := by
  refine wpListIn_plain hg fun K hK' => ?_
  obtain ⟨ao', cap', g', w', hrun, r1, r2, r3⟩ := run_app (ty := o.type) hE ho hsrc h63 hb
  unfold Oper.wpIn
  refine ⟨?_, ?_⟩
  · simp [Oper.about, hop, resolve, Target.leads, Sem.run_pure]
  · rw [Oper.semAt_plain F _ _ (by rw [hop]; intro c hc'; cases hc')]
    simp [execOp, hop, resolve, invoke, builtin, hs, hx, hrun, Result.andThen]
    exact hK' _ _ (hK ao' cap' g' w' r1 r2 r3)
end

/-- .. as one step of a region that draws its order -/
theorem step_app {P : Program} {ops : Array Oper} {o : Oper} {a : Act} {w : World} {K : Act → World → Prop} {Q : Exit → Act → World → Prop} {E : Prop}
    (hg : o.guard = none) (s x : Operand) (t tx : TypeId) (hop : o.op = Op.call { callee := Callee.builtin Builtin.append, args := #[s, x], argTypes := #[t, tx] })
    {e : TypeId} {size bytes : Nat} {z : Value} (hE : Elem P t e size bytes z) {ao : Option Addr} {cap : Nat} {g : Option Nat} {n : Nat} {xs : List Value} (ho : Own w ao cap g e size n xs) (hs : a.eval s = .slice ao n cap)
    {xv : Value} {m : Nat} {news : List Value} (hx : a.eval x = xv) (hsrc : Src P size tx xv m news w) (h63 : n + m ≤ maxLen) (hb : (n + m) * bytes ≤ 140737488355328)
    (hK : ∀ ao' cap' g' w', Own w' ao' cap' g' e size (n + m) (xs ++ news) → (g' = g ∨ g' = some w.heap.size) → Only (fun k => g = some k) w w' → K (a.put o.dst (.slice ao' (n + m) cap')) w') :
    if Region.wanted o (yielded ops a.tmps) = true then Oper.wp P o a w K Q else E := by
  have hw : Region.wanted o (yielded ops a.tmps) = true := by simp [Region.wanted, hg]
  rw [if_pos hw]
  obtain ⟨ao', cap', g', w', hrun, r1, r2, r3⟩ := run_app (ty := o.type) hE ho hsrc h63 hb
  unfold Oper.wp
  simp [execOp, hop, resolve, invoke, builtin, hs, hx, hrun, Result.andThen]
  exact hK ao' cap' g' w' r1 r2 r3

/-- what a call that hands back a slice of its own leaves -/
def RetOwn (e : TypeId) (size n : Nat) (xs : List Value) (w : World) (en : Ending) (w' : World) : Prop :=
  ∃ ao cap g, en = .returned (.slice ao n cap) ∧ Own w' ao cap g e size n xs ∧ (∀ k, g = some k → w.heap.size ≤ k) ∧ Below w.heap.size w w'
theorem cellNew (w : World) (c : Value) (t : TypeId) : ∀ j u, [c][j]? = some u → (w.alloc (.cells #[c] t)).cell? ((⟨w.heap.size, 0, none⟩ : Addr).add j) = some u := by
  intro j u hu
  rw [Addr.add_lit, Nat.zero_add, World.cell?_alloc_new]
  simpa using hu
/-- one new element, as the translation lays it ahead of an append -/
theorem srcOne {P : Program} {tx e' : TypeId} (hk : P.underlying tx = some (.slice e')) (w : World) (c : Value) (t : TypeId) (k : Nat) (h1 : c.oneCell' = true) :
    Src P 1 tx (.slice (some ⟨w.heap.size, 0, none⟩) 1 k) 1 [c] (w.alloc (.cells #[c] t)) :=
  Src.ofSlice (w.alloc (.cells #[c] t)) hk ⟨w.heap.size, 0, none⟩ 1 k [c] rfl (cellNew w c t) (by simpa using h1)
end Go.Proofs.Ytggcmnjllkncaaa
