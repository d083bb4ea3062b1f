/- kept.Push. -/
import Derived.Test.YtggcmnjllkncaaaBestSwap
namespace Go.Proofs.Ytggcmnjllkncaaa
set_option linter.unusedSimpArgs false
set_option linter.unusedVariables false
set_option maxRecDepth 100000
open Go.RowKit

/-- the top at the block t -/
def TopAt (w : World) (t : Nat) (mv : Value) (ao : Option Addr) (n cap : Nat) : Prop := w.heap[t]? = some (.cells #[mv, .slice ao n cap] 42 (0, 0))
set_option maxRecDepth 100000 in
set_option maxHeartbeats 6400000 in
theorem kpush_any (A : List VisD) (x : VisD) (t : Nat) (mv : Value) (ao : Option Addr) (cap : Nat) (g : Option Nat) (w : World) (hl : A.length ≤ 1000000) (hx : okV x) (hT : TopAt w t mv ao A.length cap) (hgt : g ≠ some t) (hO : OwnS visRep (fun _ => False) w ao cap g 31 A) :
    Calls Try.prog 82 #[.pointer (some ⟨t, 1, none⟩), .iface 31 (.agg (visCs x).toArray)] w fun e w' => e = .returned (.tuple #[]) ∧ ∃ ao' cap' g', TopAt w' t mv ao' (A.length + 1) cap' ∧ OwnS visRep (fun _ => False) w' ao' cap' g' 31 (A ++ [x]) ∧ (g' = g ∨ ∃ k, g' = some k ∧ w.heap.size ≤ k) ∧ Only (fun k => k = t ∨ g = some k) w w' := by
  have hE := visElem
  have htl : t < w.heap.size := (Array.getElem?_eq_some_iff.1 hT).1
  have HT := Lib.hid hT
  have HGC := Lib.hid (fun W (h : Below w.heap.size w W) => (show W.cell? ⟨t, 1, none⟩ = some (.slice ao A.length cap) from ((bcell h).1 t 1 htl).trans (cell_of_row w t 1 _ _ (0, 0) hT)))
  have HGF := Lib.hid (fun W (h : Below w.heap.size w W) => (show W.frozen? ⟨t, 1, none⟩ = false from ((bcell h).2 t 1 htl).trans (frozen_of_row w t 1 _ _ hT)))
  obtain ⟨css, hown, hall⟩ := hO
  have Hown := Lib.hid (show Own w ao cap g 31 3 A.length css.flatten from hown)
  have Hall := Lib.hid hall
  obtain ⟨x0, x1, x2⟩ := x
  simp only [visCs]
  have hta : ∀ W : World, (Instr.typeAssert (.iface 31 (.agg #[.int .u32 (x0 : Nat), .int .u32 (x1 : Nat), .int .u64 (x2 : Nat)])) 20 31 false).run Try.prog W = .ok (.agg #[.int .u32 (x0 : Nat), .int .u32 (x1 : Nat), .int .u64 (x2 : Nat)]) W := fun W => by kernel_rfl
  clear hown hall hT
  go_enter Try.func82, Try.ntmps82
  refine wp_region_held (S := fun _ => True) (by kernel_rfl) ?_
  have hS0 : (fun _ : World => True) w.drew := trivial
  have E8 := Lib.hid (ext_drew w)
  change wpAnyH _ _ _ _ _ _ _ _ (World.drew _)
  generalize World.drew w = w8 at hS0 E8 ⊢
  refine wpAnyH_take (i := 0) (oi := ⟨some 4, _, _, _, _, _⟩) (v := ?_) rfl (by kernel_rfl) (by kernel_rfl) (by kernel_rfl) (fun _ _ _ h => h) (Or.inl ⟨by rfl, ?_⟩) hS0 ?_
  rotate_left
  · (intro w' hSw; clear hSw; go_simp; try (with_reducible rfl))
  simp only [Act.put, List.setIfInBounds_toArray, List.set_cons_zero, List.set_cons_succ]
  refine wpAnyH_take (i := 1) (oi := ⟨some 5, _, _, _, _, _⟩) (v := ?_) rfl (by kernel_rfl) (by kernel_rfl) (by kernel_rfl) (fun _ _ _ h => h) (Or.inl ⟨by rfl, ?_⟩) hS0 ?_
  rotate_left
  · (intro w' hSw; clear hSw; go_simp; try (with_reducible rfl))
  simp only [Act.put, List.setIfInBounds_toArray, List.set_cons_zero, List.set_cons_succ]
  refine wpAnyH_take (i := 2) (oi := ⟨some 6, _, _, _, _, _⟩) (v := ?_) rfl (by kernel_rfl) (by kernel_rfl) (by kernel_rfl) (fun _ _ _ h => h) (Or.inl ⟨by rfl, ?_⟩) hS0 ?_
  rotate_left
  · (intro w' hSw; clear hSw; go_simp; try (with_reducible rfl))
  simp only [Act.put, List.setIfInBounds_toArray, List.set_cons_zero, List.set_cons_succ]
  refine wpAnyH_take (i := 4) (oi := ⟨some 8, _, _, _, _, _⟩) (v := ?_) rfl (by kernel_rfl) (by kernel_rfl) (by kernel_rfl) (fun _ _ _ h => h) (Or.inl ⟨by rfl, ?_⟩) hS0 ?_
  rotate_left
  · (intro w' hSw; clear hSw; go_simp; try (with_reducible rfl))
  simp only [Act.put, List.setIfInBounds_toArray, List.set_cons_zero, List.set_cons_succ]
  refine wpAnyH_take (i := 5) (oi := ⟨some 9, _, _, _, _, _⟩) (v := ?_) rfl (by kernel_rfl) (by kernel_rfl) (by kernel_rfl) (fun _ _ _ h => h) (Or.inl ⟨by rfl, ?_⟩) hS0 ?_
  rotate_left
  · (intro w' hSw; clear hSw; go_simp; try (with_reducible rfl))
  simp only [Act.put, List.setIfInBounds_toArray, List.set_cons_zero, List.set_cons_succ]
  refine wpAnyH_all (rs := [3, 6]) (by kernel_rfl) (by simp) ?_
  intro i' hi'
  simp only [List.mem_cons, List.not_mem_nil, or_false] at hi'
  rcases hi' with rfl | rfl
  · refine wpOp_runG (o := ⟨some 7, _, _, _, _, _⟩) rfl rfl fun K' hK => ?_
    have hgc := HGC.out w8 E8.out
    go_simp
    clear hgc
    refine hK _ _ ⟨trivial, ?_⟩
    clear hK K'
    try simp only [Act.put, List.setIfInBounds_toArray, List.set_cons_zero, List.set_cons_succ]
    refine wpAnyH_all (rs := [6]) (by kernel_rfl) (by simp) ?_
    intro i hi
    rw [List.mem_singleton] at hi
    subst hi
    refine wpOp_runG (o := ⟨some 10, _, _, _, _, _⟩) rfl rfl fun K' hK => ?_
    go_simp
    obtain ⟨w10, hw10⟩ : ∃ w', w8.alloc (.cells #[.int .u32 (x0 : Nat), .int .u32 (x1 : Nat), .int .u64 (x2 : Nat)] 31) = w' := ⟨_, rfl⟩
    have HSr := Lib.hid (show Src Try.prog 3 40 (.slice (some ⟨w8.heap.size, 0, none⟩) 1 1) 1 [.int .u32 (x0 : Nat), .int .u32 (x1 : Nat), .int .u64 (x2 : Nat)] w10 by
      rw [← hw10]
      exact Src.ofSlice (w8.alloc (.cells #[.int .u32 (x0 : Nat), .int .u32 (x1 : Nat), .int .u64 (x2 : Nat)] 31)) Try.underlying40 ⟨w8.heap.size, 0, none⟩ 1 1 [.int .u32 (x0 : Nat), .int .u32 (x1 : Nat), .int .u64 (x2 : Nat)] rfl (fun j u hu => by
        rw [Addr.add_lit, Nat.zero_add, World.cell?_alloc_new]
        simpa using hu) (by simp [Value.oneCell']))
    have EA : Below w8.heap.size w8 w10 := by rw [← hw10]; exact ext_alloc _ _
    rw [hw10]
    have E10 := Lib.hid (E8.out.trans (EA.mono E8.out.size))
    clear hw10 EA
    refine hK _ _ ⟨trivial, ?_⟩
    clear hK K'
    try simp only [Act.put, List.setIfInBounds_toArray, List.set_cons_zero, List.set_cons_succ]
    refine wpAnyH_all (rs := [7]) (by kernel_rfl) (by simp) ?_
    intro i hi
    rw [List.mem_singleton] at hi
    subst hi
    refine wpOp_runG (o := ⟨some 11, _, _, _, _, _⟩) rfl rfl fun K' hK => ?_
    refine wp_app (.tmp 7) (.tmp 10) 40 40 rfl hE (Hown.out.ext E10.out) rfl rfl HSr.out (by simp [maxLen]; omega) (by omega) ?_
    intro ao3 cap3 g3 w9 ho3 hg3 hon3
    have hgl9 := Nat.lt_of_lt_of_le htl E10.out.size
    have hgc := (hon3.cell hgl9 hgt 1).trans (HGC.out w10 E10.out)
    have hgf := (hon3.frozen hgl9 hgt 1).trans (HGF.out w10 E10.out)
    have hth : w9.heap[t]? = some (.cells #[mv, .slice ao A.length cap] 42 (0, 0)) := (hon3.same t hgl9 hgt).trans ((E10.out.block t htl).trans HT.out)
    have Ho3 := Lib.hid ho3
    have Hg3 := Lib.hid hg3
    have Hon3 := Lib.hid hon3
    clear ho3 hg3 hon3
    refine hK _ _ ⟨trivial, ?_⟩
    clear hK K'
    try simp only [Act.put, List.setIfInBounds_toArray, List.set_cons_zero, List.set_cons_succ]
    refine wpAnyH_take (i := 8) (oi := ⟨some 12, _, _, _, _, _⟩) (v := ?_) rfl (by kernel_rfl) (by kernel_rfl) (by kernel_rfl) (fun _ _ _ h => h) (Or.inl ⟨by rfl, ?_⟩) hS0 ?_
    rotate_left
    · (intro w' hSw; clear hSw; go_simp; try (with_reducible rfl))
    simp only [Act.put, List.setIfInBounds_toArray, List.set_cons_zero, List.set_cons_succ]
    refine wpAnyH_all (rs := [9]) (by kernel_rfl) (by simp) ?_
    intro i hi
    rw [List.mem_singleton] at hi
    subst hi
    refine wpOp_runG (o := ⟨none, _, _, _, _, _⟩) rfl rfl fun K' hK => ?_
    go_simp
    refine hK _ _ ⟨trivial, ?_⟩
    clear hK K'
    try simp only [Act.put, List.setIfInBounds_toArray, List.set_cons_zero, List.set_cons_succ]
    refine wpAnyH_done (by kernel_rfl) ?_ _
    have hgs := heap_setCells_in t 42 (0, 0) [.slice ao3 (A.length + 1) cap3] 1 w9 _ hth
    have hz := E10.out.size
    have hz9 := Hon3.out.size
    have hrow : OwnS visRep (fun _ => False) w9 ao3 cap3 g3 31 (A ++ [(x0, x1, x2)]) := OwnS.snoc (w := w) Hall.out (cs := [.int .u32 (x0 : Nat), .int .u32 (x1 : Nat), .int .u64 (x2 : Nat)]) (visRep_ok hx) Ho3.out (fun b hb => hb.elim) (by omega)
    have hg3' : g3 = g ∨ ∃ k, g3 = some k ∧ w.heap.size ≤ k := by
      rcases Hg3.out with h | h
      · exact .inl h
      · exact .inr ⟨_, h, hz⟩
    have hg3t : g3 ≠ some t := fun e => by
      rcases hg3' with h | ⟨k, h, h2⟩
      · exact hgt (by rw [← h, e])
      · rw [h] at e; cases e; omega
    go_end0
    refine ⟨rfl, ao3, cap3, g3, hgs, hrow.keep (fun b hb hl => Below.heap_setCell _ _ _ _ (fun e => ?_)) (by simp), hg3', ?_⟩
    · simp only at e
      rcases hb with h | h
      · exact h
      · exact hg3t (by rw [h, e])
    · exact ((((Only.of_below (fp := fun k => g = some k) E10.out).trans Hon3.out (fun _ _ h => h)).mono (fun k _ h => .inr h)).setCell (fun _ => .inl rfl) _)
  · refine wpOp_runG (o := ⟨some 10, _, _, _, _, _⟩) rfl rfl fun K' hK => ?_
    go_simp
    obtain ⟨w10, hw10⟩ : ∃ w', w8.alloc (.cells #[.int .u32 (x0 : Nat), .int .u32 (x1 : Nat), .int .u64 (x2 : Nat)] 31) = w' := ⟨_, rfl⟩
    have HSr := Lib.hid (show Src Try.prog 3 40 (.slice (some ⟨w8.heap.size, 0, none⟩) 1 1) 1 [.int .u32 (x0 : Nat), .int .u32 (x1 : Nat), .int .u64 (x2 : Nat)] w10 by
      rw [← hw10]
      exact Src.ofSlice (w8.alloc (.cells #[.int .u32 (x0 : Nat), .int .u32 (x1 : Nat), .int .u64 (x2 : Nat)] 31)) Try.underlying40 ⟨w8.heap.size, 0, none⟩ 1 1 [.int .u32 (x0 : Nat), .int .u32 (x1 : Nat), .int .u64 (x2 : Nat)] rfl (fun j u hu => by
        rw [Addr.add_lit, Nat.zero_add, World.cell?_alloc_new]
        simpa using hu) (by simp [Value.oneCell']))
    have EA : Below w8.heap.size w8 w10 := by rw [← hw10]; exact ext_alloc _ _
    rw [hw10]
    have E10 := Lib.hid (E8.out.trans (EA.mono E8.out.size))
    clear hw10 EA
    refine hK _ _ ⟨trivial, ?_⟩
    clear hK K'
    try simp only [Act.put, List.setIfInBounds_toArray, List.set_cons_zero, List.set_cons_succ]
    refine wpAnyH_all (rs := [3]) (by kernel_rfl) (by simp) ?_
    intro i hi
    rw [List.mem_singleton] at hi
    subst hi
    refine wpOp_runG (o := ⟨some 7, _, _, _, _, _⟩) rfl rfl fun K' hK => ?_
    have hgc := HGC.out w10 E10.out
    go_simp
    clear hgc
    refine hK _ _ ⟨trivial, ?_⟩
    clear hK K'
    try simp only [Act.put, List.setIfInBounds_toArray, List.set_cons_zero, List.set_cons_succ]
    refine wpAnyH_all (rs := [7]) (by kernel_rfl) (by simp) ?_
    intro i hi
    rw [List.mem_singleton] at hi
    subst hi
    refine wpOp_runG (o := ⟨some 11, _, _, _, _, _⟩) rfl rfl fun K' hK => ?_
    refine wp_app (.tmp 7) (.tmp 10) 40 40 rfl hE (Hown.out.ext E10.out) rfl rfl HSr.out (by simp [maxLen]; omega) (by omega) ?_
    intro ao3 cap3 g3 w9 ho3 hg3 hon3
    have hgl9 := Nat.lt_of_lt_of_le htl E10.out.size
    have hgc := (hon3.cell hgl9 hgt 1).trans (HGC.out w10 E10.out)
    have hgf := (hon3.frozen hgl9 hgt 1).trans (HGF.out w10 E10.out)
    have hth : w9.heap[t]? = some (.cells #[mv, .slice ao A.length cap] 42 (0, 0)) := (hon3.same t hgl9 hgt).trans ((E10.out.block t htl).trans HT.out)
    have Ho3 := Lib.hid ho3
    have Hg3 := Lib.hid hg3
    have Hon3 := Lib.hid hon3
    clear ho3 hg3 hon3
    refine hK _ _ ⟨trivial, ?_⟩
    clear hK K'
    try simp only [Act.put, List.setIfInBounds_toArray, List.set_cons_zero, List.set_cons_succ]
    refine wpAnyH_take (i := 8) (oi := ⟨some 12, _, _, _, _, _⟩) (v := ?_) rfl (by kernel_rfl) (by kernel_rfl) (by kernel_rfl) (fun _ _ _ h => h) (Or.inl ⟨by rfl, ?_⟩) hS0 ?_
    rotate_left
    · (intro w' hSw; clear hSw; go_simp; try (with_reducible rfl))
    simp only [Act.put, List.setIfInBounds_toArray, List.set_cons_zero, List.set_cons_succ]
    refine wpAnyH_all (rs := [9]) (by kernel_rfl) (by simp) ?_
    intro i hi
    rw [List.mem_singleton] at hi
    subst hi
    refine wpOp_runG (o := ⟨none, _, _, _, _, _⟩) rfl rfl fun K' hK => ?_
    go_simp
    refine hK _ _ ⟨trivial, ?_⟩
    clear hK K'
    try simp only [Act.put, List.setIfInBounds_toArray, List.set_cons_zero, List.set_cons_succ]
    refine wpAnyH_done (by kernel_rfl) ?_ _
    have hgs := heap_setCells_in t 42 (0, 0) [.slice ao3 (A.length + 1) cap3] 1 w9 _ hth
    have hz := E10.out.size
    have hz9 := Hon3.out.size
    have hrow : OwnS visRep (fun _ => False) w9 ao3 cap3 g3 31 (A ++ [(x0, x1, x2)]) := OwnS.snoc (w := w) Hall.out (cs := [.int .u32 (x0 : Nat), .int .u32 (x1 : Nat), .int .u64 (x2 : Nat)]) (visRep_ok hx) Ho3.out (fun b hb => hb.elim) (by omega)
    have hg3' : g3 = g ∨ ∃ k, g3 = some k ∧ w.heap.size ≤ k := by
      rcases Hg3.out with h | h
      · exact .inl h
      · exact .inr ⟨_, h, hz⟩
    have hg3t : g3 ≠ some t := fun e => by
      rcases hg3' with h | ⟨k, h, h2⟩
      · exact hgt (by rw [← h, e])
      · rw [h] at e; cases e; omega
    go_end0
    refine ⟨rfl, ao3, cap3, g3, hgs, hrow.keep (fun b hb hl => Below.heap_setCell _ _ _ _ (fun e => ?_)) (by simp), hg3', ?_⟩
    · simp only at e
      rcases hb with h | h
      · exact h
      · exact hg3t (by rw [h, e])
    · exact ((((Only.of_below (fp := fun k => g = some k) E10.out).trans Hon3.out (fun _ _ h => h)).mono (fun k _ h => .inr h)).setCell (fun _ => .inl rfl) _)
end Go.Proofs.Ytggcmnjllkncaaa
