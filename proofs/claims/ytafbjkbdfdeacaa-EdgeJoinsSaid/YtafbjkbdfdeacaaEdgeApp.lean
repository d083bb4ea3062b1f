/- append, and what is left of the slice that it is called with. No program in sight. -/
import Derived.Test.YtafbjkbdfdeacaaSl
namespace Go.Proofs.Ytafbjkbdfdeacaa
set_option linter.unusedSimpArgs false
set_option linter.unusedVariables false
open Go.RowKit

theorem run_app2 {P : Program} {w : World} {t tx ty e : TypeId} {size bytes : Nat} {z : Value} (hE : Elem P t e size bytes z) {ao : Option Addr} {cap : Nat} {g : Option Nat} {n : Nat} {xs : List Value} (ho : Own w ao cap g e size n xs)
    {x : Value} {m : Nat} {news : List Value} (hs : Src P size tx x m news w) (h63 : n + m ≤ maxLen) (hb : (n + m) * bytes ≤ 140737488355328) :
    ∃ ao' cap' g' w', (Builtin.append_ #[t, tx] ty #[.slice ao n cap, x]).run P w = .ok (.slice ao' (n + m) cap') w' ∧ Own w' ao' cap' g' e size (n + m) (xs ++ news) ∧
      (g' = g ∨ (g' = some w.heap.size ∧ Only (fun _ => False) w w')) ∧ Only (fun k => g = some k) w w' := by
  obtain ⟨i, hi, hz, hsz, hby⟩ := hE.hi
  subst hsz
  subst hby
  have hsmall : n + m ≤ 9223372036854775807 := by simp only [maxLen] at h63; omega
  have hlen : (xs ++ news).length = (n + m) * i.size := by rw [List.length_append, ho.1, hs.newsLen, Nat.add_mul]
  by_cases hroom : n + m ≤ cap
  · rcases ho.2 with ⟨rfl, hc, hn0, rfl⟩ | ⟨b, cur, rfl, rfl, hh, hn, hcm, hcs, ht⟩
    · -- nil, and nothing is appended
      have hm : m = 0 := by omega
      subst hm; subst hn0; subst hc
      have hnews : news = [] := List.eq_nil_of_length_eq_zero (by simpa using hs.newsLen)
      have hxs : xs = [] := List.eq_nil_of_length_eq_zero (by simpa using ho.1)
      subst hnews; subst hxs
      refine ⟨none, 0, none, w, ?_, Own.nil w e i.size, .inl rfl, Only.refl _ _⟩
      have hst := run_storeCells_cells (P := P) 0 0 [] 0 w (by simp) (by simp) (by simp)
      rcases hs.kind with ⟨e', hk⟩ | hk <;> simp [Builtin.append_, run_underlying hE.ht, run_underlying hk, sizeOf, typeInfo, hi, hs.len, hs.cells]
    · have hfit : n * i.size + news.length ≤ cur.size := by rw [hs.newsLen, hcs, ← Nat.add_mul]; exact Nat.mul_le_mul_right _ hroom
      have hr := run_append_room_src (P := P) w t tx ty e i hE.ht hi b 0 n cap x m news hs hroom
        (fun j hj => by rw [cell_of_row w b _ cur e (0, 0) hh, Array.getElem?_eq_getElem (by omega)]; rfl)
        (fun j hj => by simp [World.frozen?, hh])
      refine ⟨_, _, some b, _, hr, ⟨hlen, .inr ⟨b, setsAt cur (0 + n * i.size) news, rfl, rfl, heap_setCells_in b e (0, 0) news _ w cur hh, hroom, hcm, by rw [setsAt_size, hcs], ?_⟩⟩, .inl rfl,
        (only_setCells b news _ w).mono (fun k _ hk => by rw [hk])⟩
      have h1 := setsAt_take news (0 + n * i.size) cur (by omega)
      rw [Nat.add_mul, ← hs.newsLen]
      rw [Nat.zero_add] at h1 ⊢
      rw [h1, ht]
  · have hcn : n ≤ cap := ho.capLe.1
    have hold : (Builtin.firstCells i.size n (.slice ao n cap)).run P w.drew = .ok xs.toArray w.drew := by
      rcases ho.2 with ⟨rfl, hc, hn0, rfl⟩ | ⟨b, cur, rfl, rfl, hh, hn, hcm, hcs, ht⟩
      · subst hn0
        have hxs : xs = [] := List.eq_nil_of_length_eq_zero (by simpa using ho.1)
        subst hxs
        exact run_firstCells_none w.drew i.size 0 0 cap
      · refine run_firstCells_some w.drew i.size n ⟨b, 0, none⟩ n cap xs ho.1 (fun j v hv => ?_)
        have hj : j < n * i.size := by rw [← ho.1]; exact (List.getElem?_eq_some_iff.1 hv).1
        rw [Addr.add_lit, Nat.zero_add]
        show w.cell? _ = _
        rw [ho.cell j hj, hv]
    have hr := run_append_grow_src (P := P) w t tx ty e i z hE.ht hi hz ao n cap xs hold x m news hs (by omega) (by omega)
      (growslice_fits (by omega) hb)
    have hge := grownCap_ge w (n + m) cap e
    refine ⟨_, _, some w.heap.size, _, hr, ⟨hlen, .inr ⟨w.heap.size, _, rfl, rfl, heap_alloc_new w.drew _, hge, grownCap_le_maxLen w (n + m) cap e h63, ?_, ?_⟩⟩, .inr ⟨rfl, ((Only.refl _ w).drew).alloc _⟩, ((Only.refl _ w).drew).alloc _⟩
    · simp only [Array.size_append, List.size_toArray, size_zeroCells, hE.hz, hlen, ← Nat.add_mul]
      congr 1
      omega
    · simp only [Array.toList_append]
      rw [← hlen]
      exact List.take_left

/-- what the slice that was appended to reads, behind it -/
theorem app2_old {w w' : World} {ao ao' : Option Addr} {cap cap' : Nat} {g g' : Option Nat} {e : TypeId} {size n m : Nat} {xs news : List Value} (ho : Own w ao cap g e size n xs) (ho' : Own w' ao' cap' g' e size (n + m) (xs ++ news)) (hg : g' = g ∨ (g' = some w.heap.size ∧ Only (fun _ => False) w w')) (hn : 0 < n) :
    ∃ b, ao = some ⟨b, 0, none⟩ ∧ b < w.heap.size ∧ ∀ j, j < n * size → w'.cell? ⟨b, j, none⟩ = xs[j]? := by
  obtain ⟨b, hgb, hab, hb⟩ := ho.pos hn
  subst hab
  refine ⟨b, rfl, hb, fun j hj => ?_⟩
  rcases hg with h | ⟨_, h⟩
  · obtain ⟨b', hgb', hab', _⟩ := ho'.pos (by omega)
    rw [h, hgb] at hgb'
    cases hgb'
    subst hab'
    have := ho'.cell j (by rw [Nat.add_mul]; omega)
    rw [this, List.getElem?_append_left (by rw [ho.len]; exact hj)]
  · exact (h.cell hb (fun h => h.elim) j).trans (ho.cell j hj)
section
variable {P : Program} {w : World} {ops : Array Oper} {rest : List Oper} {o : Oper} {a : Act} {Q : Exit → Act → World → Prop}
theorem wpList_app2 (hg : o.guard = none) (s x : Operand) (t tx : TypeId) (hop : o.op = Op.call { callee := Callee.builtin Builtin.append, args := #[s, x], argTypes := #[t, tx] })
    {e : TypeId} {size bytes : Nat} {z : Value} (hE : Elem P t e size bytes z) {ao : Option Addr} {cap : Nat} {g : Option Nat} {n : Nat} {xs : List Value} (ho : Own w ao cap g e size n xs) (hs : a.eval s = .slice ao n cap)
    {xv : Value} {m : Nat} {news : List Value} (hx : a.eval x = xv) (hsrc : Src P size tx xv m news w) (h63 : n + m ≤ maxLen) (hb : (n + m) * bytes ≤ 140737488355328)
    (hK : ∀ ao' cap' g' w', Own w' ao' cap' g' e size (n + m) (xs ++ news) → (g' = g ∨ (g' = some w.heap.size ∧ Only (fun _ => False) w w')) → Only (fun k => g = some k) w w' → wpList P ops Q rest (a.put o.dst (.slice ao' (n + m) cap')) w') :
    wpList P ops Q (o :: rest) a w := by
  refine wpList_plain hg fun K hK' => ?_
  obtain ⟨ao', cap', g', w', hrun, r1, r2, r3⟩ := run_app2 (ty := o.type) hE ho hsrc h63 hb
  unfold Oper.wp
  simp [execOp, hop, resolve, invoke, builtin, hs, hx, hrun, Result.andThen]
  exact hK' _ _ (hK ao' cap' g' w' r1 r2 r3)
end
end Go.Proofs.Ytafbjkbdfdeacaa
