/- An element of an owned slice is set anew, all its cells. No program in sight. -/
import Derived.Test.YtggcmnjllkncaaaRep
import Derived.Test.YtggcmnjllkncaaaStoreRow
namespace Go.Proofs.Ytggcmnjllkncaaa
set_option linter.unusedSimpArgs false
set_option linter.unusedVariables false
set_option maxRecDepth 100000
open Go.RowKit

theorem setsAt_list : ∀ (vs : List Value) (o : Nat) (cur : Array Value), o + vs.length ≤ cur.size → (setsAt cur o vs).toList = cur.toList.take o ++ vs ++ cur.toList.drop (o + vs.length)
  | [], o, cur, _ => by simp [setsAt]
  | v :: r, o, cur, h => by
    simp only [List.length_cons] at h ⊢
    rw [setsAt, setsAt_list r (o + 1) (cur.setIfInBounds o v) (by simp; omega), Array.toList_setIfInBounds]
    have ho : o < cur.toList.length := by simp; omega
    rw [List.take_succ_eq_append_getElem (by rw [List.length_set]; exact ho), List.take_set_of_le (Nat.le_refl _), List.getElem_set_self, List.drop_set_of_lt (by omega)]
    simp [Nat.add_assoc, Nat.add_comm 1]
theorem flat_take {s : Nat} : ∀ (css : List (List Value)) (k : Nat), (∀ c ∈ css, c.length = s) → k ≤ css.length → css.flatten.take (k * s) = (css.take k).flatten ∧ css.flatten.drop (k * s) = (css.drop k).flatten
  | css, 0, _, _ => by simp
  | [], k + 1, _, h => by simp at h
  | c :: css, k + 1, hs, h => by
    obtain ⟨h1, h2⟩ := flat_take css k (fun x hx => hs x (by simp [hx])) (by simpa using h)
    have hc := hs c (by simp)
    have e : (k + 1) * s = c.length + k * s := by rw [hc, Nat.add_mul]; omega
    rw [List.flatten_cons, e, List.take_length_add_append, List.drop_length_add_append, h1, h2]
    simp
theorem set_parts {α : Type} (l : List α) (k : Nat) (x : α) (h : k < l.length) : l.set k x = l.take k ++ [x] ++ l.drop (k + 1) := by
  rw [List.set_eq_take_append_cons_drop, if_pos h]; simp
theorem all2_lens {α : Type} {R : Rep α} {fp : Nat → Prop} {w : World} : ∀ {l : List α} {css : List (List Value)}, All2 (fun x cs => R.ok w fp x cs) l css → css.length = l.length ∧ ∀ c ∈ css, c.length = R.size
  | _, _, .nil => ⟨rfl, fun c h => by cases h⟩
  | _, _, .cons h1 h2 => by
    obtain ⟨h3, h4⟩ := all2_lens h2
    refine ⟨by simp [h3], fun c hc => ?_⟩
    rcases List.mem_cons.1 hc with rfl | hc
    · exact R.len h1
    · exact h4 c hc
theorem all2_set {α β : Type} {p : α → β → Prop} : ∀ {l : List α} {m : List β} (k : Nat) {x : α} {y : β}, All2 p l m → p x y → All2 p (l.set k x) (m.set k y)
  | _, _, _, _, _, .nil, _ => by simpa using All2.nil
  | _, _, 0, _, _, .cons _ h2, h => .cons h h2
  | _, _, k + 1, _, _, .cons h1 h2, h => .cons h1 (all2_set k h2 h)
theorem step_store_mid {P : Program} {ops : Array Oper} {op : Oper} {a : Act} {w : World} {K : Act → World → Prop} {Q : Exit → Act → World → Prop} {E : Prop} (hgd : op.guard = none) (ty : TypeId) (x y : Operand) (ho : op.op = .store ty x y) {b o : Nat} {cells : Array Value} (hx : a.eval x = .pointer (some ⟨b, o, none⟩)) (hy : a.eval y = .agg cells)
    (ht : w.there b o cells.size) (hi : (P.info? ty).map (·.size) = some cells.size) (h1 : cells.all (·.oneCell') = true)
    (hK : ∀ w', w' = w.setCells b o cells.toList → K (a.put op.dst undef) w') : if Region.wanted op (yielded ops a.tmps) = true then Oper.wp P op a w K Q else E := by
  have hw : Region.wanted op (yielded ops a.tmps) = true := by simp [Region.wanted, hgd]
  rw [if_pos hw]
  exact wp_store_mid ty x y ho b o cells hx hy ht hi h1 (hK _ rfl)
theorem wp_app {P : Program} {o : Oper} {a : Act} {w : World} {K : Act → World → Prop} {Q : Exit → Act → World → Prop} (s x : Operand) (t tx : TypeId) (hop : o.op = Op.call { callee := Callee.builtin Builtin.append, args := #[s, x], argTypes := #[t, tx] })
    {e : TypeId} {size bytes : Nat} {z : Value} (hE : Elem P t e size bytes z) {ao : Option Addr} {cap : Nat} {g : Option Nat} {n : Nat} {xs : List Value} (ho : Own w ao cap g e size n xs) (hs : a.eval s = .slice ao n cap)
    {xv : Value} {m : Nat} {news : List Value} (hx : a.eval x = xv) (hsrc : Src P size tx xv m news w) (h63 : n + m ≤ maxLen) (hb : (n + m) * bytes ≤ 140737488355328)
    (hK : ∀ ao' cap' g' w', Own w' ao' cap' g' e size (n + m) (xs ++ news) → (g' = g ∨ g' = some w.heap.size) → Only (fun k => g = some k) w w' → K (a.put o.dst (.slice ao' (n + m) cap')) w') : o.wp P a w K Q := by
  obtain ⟨ao', cap', g', w', hrun, r1, r2, r3⟩ := run_app (ty := o.type) hE ho hsrc h63 hb
  unfold Oper.wp
  simp [execOp, hop, resolve, invoke, builtin, hs, hx, hrun, Result.andThen]
  exact hK ao' cap' g' w' r1 r2 r3
section
variable {α : Type} {R : Rep α} {fp : Nat → Prop} {w : World} {cap b : Nat} {e : TypeId} {l : List α}
theorem OwnS.setAt (h : OwnS R fp w (some ⟨b, 0, none⟩) cap (some b) e l) (hfp : ∀ k, fp k → k ≠ b) {k : Nat} (hk : k < l.length) {x : α} {cs : List Value} (hx : R.ok w fp x cs) :
    OwnS R fp (w.setCells b (k * R.size) cs) (some ⟨b, 0, none⟩) cap (some b) e (l.set k x) := by
  obtain ⟨css, ⟨hlen, hown⟩, hall⟩ := h
  rcases hown with ⟨h0, _⟩ | ⟨b', cur, hb, _, hh, hn, hc, hcs, ht⟩
  · cases h0
  cases hb
  have ho := only_setCells b cs (k * R.size) w
  obtain ⟨hl1, hl2⟩ := all2_lens hall
  have hcl := R.len hx
  have hks : (k + 1) * R.size ≤ l.length * R.size := Nat.mul_le_mul_right _ hk
  have hks' : k * R.size + R.size ≤ l.length * R.size := by rwa [Nat.add_mul, Nat.one_mul] at hks
  have hncap : l.length * R.size ≤ cap * R.size := Nat.mul_le_mul_right _ hn
  have hall' := all2_set k (forall2_imp (q := fun x cs' => R.ok (w.setCells b (k * R.size) cs) fp x cs') (fun x c h => R.keep h (fun q hq hl => ho.same q hl (hfp q hq)) ho.size) hall) (R.keep hx (fun q hq hl => ho.same q hl (hfp q hq)) ho.size)
  have hl2' : ∀ c ∈ css.set k cs, c.length = R.size := fun c hc' => by
    rcases List.mem_or_eq_of_mem_set hc' with h | h
    · exact hl2 c h
    · rw [h]; exact hcl
  have hflat : (css.set k cs).flatten.length = l.length * R.size := by
    have := all2_len hall'
    rw [List.length_set] at this
    exact this
  refine ⟨css.set k cs, ⟨by rw [List.length_set]; exact hflat, .inr ⟨b, setsAt cur (k * R.size) cs, rfl, rfl, heap_setCells_in b e (0, 0) cs _ w cur hh, by rw [List.length_set]; exact hn, hc, by rw [setsAt_size, hcs], ?_⟩⟩, hall'⟩
  rw [List.length_set, setsAt_list cs _ cur (by rw [hcl, hcs]; omega), hcl]
  have e1 : (css.set k cs).flatten = (css.take k).flatten ++ cs ++ (css.drop (k + 1)).flatten := by
    rw [set_parts css k cs (by omega)]; simp
  obtain ⟨f1, _⟩ := flat_take css k hl2 (by omega)
  obtain ⟨_, f2⟩ := flat_take css (k + 1) hl2 (by omega)
  rw [e1, ← f1, ← f2, ← ht, List.append_assoc, List.take_append, List.take_append]
  have t1 : (cur.toList.take (k * R.size)).length = k * R.size := by rw [List.length_take]; simp; omega
  rw [t1, hcl, List.take_take, Nat.min_eq_right (by omega), List.take_take, Nat.min_eq_left (by omega), List.take_of_length_le (l := cs) (by omega), List.append_assoc]
  congr 1
  congr 1
  rw [List.drop_take, Nat.add_mul, Nat.one_mul]
  congr 1
  omega
theorem OwnS.there (h : OwnS R fp w (some ⟨b, 0, none⟩) cap (some b) e l) {k : Nat} (hk : k < l.length) : w.there b (k * R.size) R.size := fun j hj => by
  obtain ⟨css, ho, _⟩ := h
  have hks : (k + 1) * R.size ≤ l.length * R.size := Nat.mul_le_mul_right _ hk
  have hks' : k * R.size + R.size ≤ l.length * R.size := by rwa [Nat.add_mul, Nat.one_mul] at hks
  refine ⟨?_, ho.frozen _⟩
  rw [ho.cell _ (by omega)]
  have := ho.len
  rw [List.getElem?_eq_getElem (by omega)]
  rfl
end
theorem Own.setCellAt {w : World} {b cap n size : Nat} {e : TypeId} {xs : List Value} (h : Own w (some ⟨b, 0, none⟩) cap (some b) e size n xs) (j : Nat) (v : Value) :
    Own (w.setCell ⟨b, j, none⟩ v) (some ⟨b, 0, none⟩) cap (some b) e size n (xs.set j v) := by
  refine ⟨by rw [List.length_set]; exact h.1, ?_⟩
  rcases h.2 with ⟨h1, _⟩ | ⟨b', cur, hg, ha, hh, hn, hc, hs, ht⟩
  · cases h1
  · cases hg
    refine .inr ⟨b, cur.setIfInBounds j v, rfl, rfl, ?_, hn, hc, by simpa using hs, ?_⟩
    · show (w.heap.modify b _)[b]? = _
      rw [Array.getElem?_modify, if_pos rfl, hh]
      rfl
    · rw [Array.toList_setIfInBounds, ← ht, List.take_set]
end Go.Proofs.Ytggcmnjllkncaaa
