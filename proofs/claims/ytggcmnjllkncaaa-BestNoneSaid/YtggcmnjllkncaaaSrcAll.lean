/- Whatever reads as a slice, as what is appended; what was put together. No program in sight. -/
import Derived.Test.YtggcmnjllkncaaaRep
import Derived.Test.YtggcmnjllkncaaaRowW
import Derived.Laws.MakeOwn
namespace Go.Proofs.Ytggcmnjllkncaaa
set_option linter.unusedSimpArgs false
set_option linter.unusedVariables false
set_option maxRecDepth 100000
open Go.RowKit

theorem app_blocksM {w W W' : World} {g g' : Option Nat} (hg : ∀ k, g = some k → w.heap.size ≤ k) (hB : Below w.heap.size w W) (hg' : g' = g ∨ g' = some W.heap.size) (hon : Only (fun k => g = some k) W W') : (∀ k, g' = some k → w.heap.size ≤ k) ∧ Below w.heap.size w W' := by
  refine ⟨fun k h => ?_, hB.trans (hon.below hB.size (fun k hk e => by have := hg k e; omega))⟩
  rcases hg' with rfl | rfl
  · exact hg k h
  · cases h; exact hB.size

theorem RdS.css {α : Type} {R : Rep α} {fp : Nat → Prop} {w : World} {b : Nat} : ∀ {l : List α} {off : Nat}, RdS R fp w (some ⟨b, off, none⟩) l →
    ∃ css, All2 (fun x cs => R.ok w fp x cs) l css ∧ ∀ j u, css.flatten[j]? = some u → w.cell? ⟨b, off + j, none⟩ = some u
  | [], off, h => ⟨[], .nil, fun j u hu => by simp at hu⟩
  | x :: l, off, h => by
    obtain ⟨b', off', cs, e, _, _, hx, hc⟩ := h.at 0 (by simp)
    cases e
    obtain ⟨css, h1, h2⟩ := RdS.css (l := l) (by simpa using h.drop 1)
    refine ⟨cs :: css, .cons hx h1, fun j u hu => ?_⟩
    rw [List.flatten_cons] at hu
    by_cases hj : j < R.size
    · rw [List.getElem?_append_left (by rw [R.len hx]; exact hj)] at hu
      rw [← hu, ← hc j hj]; simp
    · rw [List.getElem?_append_right (by rw [R.len hx]; omega), R.len hx] at hu
      have := h2 _ _ hu
      rw [show off + R.size + (j - R.size) = off + j by omega] at this
      exact this
/-- a representation whose cells are plain -/
def OneC {α : Type} (R : Rep α) : Prop := ∀ {w : World} {fp : Nat → Prop} {x : α} {cs : List Value}, R.ok w fp x cs → ∀ u ∈ cs, u.oneCell' = true
theorem OneC.nat (k : IntKind) (b : Nat) : OneC (Rep.nat k b) := fun h u hu => by rw [h.1, List.mem_singleton] at hu; subst hu; rfl
theorem OneC.slice {α : Type} (R : Rep α) : OneC (Rep.slice R) := fun h u hu => by obtain ⟨a, c, rfl, _⟩ := h; rw [List.mem_singleton.1 hu]; rfl
theorem OneC.prod {α β : Type} {R : Rep α} {S : Rep β} (h1 : OneC R) (h2 : OneC S) : OneC (R.prod S) := fun h u hu => by
  obtain ⟨c, d, rfl, h3, h4⟩ := h
  rcases List.mem_append.1 hu with h | h
  · exact h1 h3 u h
  · exact h2 h4 u h
theorem OneC.all {α : Type} {R : Rep α} (ho : OneC R) {fp : Nat → Prop} {w : World} : ∀ {l : List α} {css : List (List Value)}, All2 (fun x cs => R.ok w fp x cs) l css → ∀ u ∈ css.flatten, u.oneCell' = true
  | _, _, .nil => fun u hu => by simp at hu
  | _, _, .cons h1 h2 => fun u hu => by
    rw [List.flatten_cons] at hu
    rcases List.mem_append.1 hu with h | h
    · exact ho h1 u h
    · exact ho.all h2 u h
/-- whatever reads as a slice, as what is appended -/
theorem RdS.srcAll {α : Type} {R : Rep α} (ho : OneC R) {P : Program} {tx e' : TypeId} (hk : P.underlying tx = some (.slice e')) {fp : Nat → Prop} {w : World} {ao : Option Addr} {l : List α} (h : RdS R fp w ao l) :
    ∃ css, All2 (fun x cs => R.ok w fp x cs) l css ∧ ∀ W', Below w.heap.size w W' → ∀ cap, Src P R.size tx (.slice ao l.length cap) l.length css.flatten W' := by
  rcases Nat.eq_zero_or_pos l.length with h0 | h0
  · obtain rfl := List.eq_nil_of_length_eq_zero h0
    refine ⟨[], .nil, fun W' _ cap => ?_⟩
    cases ao with
    | none => exact Src.ofNil _ hk cap
    | some a => exact Src.ofSlice W' hk a 0 cap [] (by simp) (fun j u hu => by simp at hu) (fun u hu => by simp at hu)
  · obtain ⟨b, off, _, rfl, _, hb, _, _⟩ := h.at 0 h0
    obtain ⟨css, h1, h2⟩ := h.css
    refine ⟨css, h1, fun W' hB cap => Src.ofSlice W' hk ⟨b, off, none⟩ l.length cap css.flatten (all2_len h1) (fun j u hu => ?_) (ho.all h1)⟩
    rw [Addr.add_lit]
    exact ((bcell hB).1 b (off + j) hb).trans (h2 j u hu)
/-- what was put together reads -/
theorem rd_join {α : Type} {R : Rep α} {fp : Nat → Prop} {w w' : World} {ao : Option Addr} {cap : Nat} {g : Option Nat} {e : TypeId} {l : List α} {css : List (List Value)} {n : Nat} {xs : List Value} (h : All2 (fun x cs => R.ok w fp x cs) l css) (ho : Own w' ao cap g e R.size n xs) (hn : n = l.length) (hx : xs = css.flatten)
    (hk : ∀ b, fp b → b < w.heap.size → w'.heap[b]? = w.heap[b]?) (hs : w.heap.size ≤ w'.heap.size) : RdS R (fun b => fp b ∨ g = some b) w' ao l := by
  subst hn hx
  exact OwnS.rd ⟨css, ho, forall2_imp (fun x cs h => R.keep h hk hs) h⟩
theorem all2_mono {α : Type} {R : Rep α} {fp fp' : Nat → Prop} {w w' : World} {l : List α} {css : List (List Value)} (h : All2 (fun x cs => R.ok w fp x cs) l css) (hk : ∀ b, fp b → b < w.heap.size → w'.heap[b]? = w.heap[b]?) (hs : w.heap.size ≤ w'.heap.size) (hm : ∀ b, fp b → fp' b) : All2 (fun x cs => R.ok w' fp' x cs) l css :=
  forall2_imp (fun x cs h => R.mono (R.keep h hk hs) (fun b hb _ => hm b hb)) h
theorem heap_alloc_ite (w : World) (c : Array Value) (t : TypeId) (n : Nat) : (w.alloc (.cells c t)).heap[n]? = if n = w.heap.size then some (.cells c t (0, 0)) else w.heap[n]? := by
  split
  · rename_i h; subst h; exact heap_alloc_new w _
  · rename_i h; unfold World.alloc; simp only [Array.getElem?_push]; rw [if_neg h]
theorem drew_heap (w : World) : w.drew.heap = w.heap := rfl
theorem own_empty {W : World} {b : Nat} {e : TypeId} {size : Nat} (h : W.heap[b]? = some (.cells #[] e (0, 0))) : Own W (some ⟨b, 0, none⟩) 0 (some b) e size 0 [] :=
  ⟨by simp, .inr ⟨b, #[], rfl, rfl, h, Nat.le_refl _, by simp [maxLen], by simp, by simp⟩⟩
theorem srcBlk {P : Program} {tx e' : TypeId} (hk : P.underlying tx = some (.slice e')) {W : World} (cs : List Value) {t : TypeId} {k b : Nat} (size : Nat) (hb : W.heap[b]? = some (.cells cs.toArray t (0, 0))) (hs : cs.length = size) (h1 : ∀ u ∈ cs, u.oneCell' = true) :
    Src P size tx (.slice (some ⟨b, 0, none⟩) 1 k) 1 cs W :=
  Src.ofSlice W hk ⟨b, 0, none⟩ 1 k cs (by omega) (fun j u hu => by
    rw [Addr.add_lit, Nat.zero_add, cell_of_row W b j _ _ _ hb]
    simpa using hu) h1
theorem rd_pos {α : Type} {R : Rep α} {fp : Nat → Prop} {w : World} {ao : Option Addr} {l : List α} (h : RdS R fp w ao l) (h0 : 0 < l.length) : ∃ b off, ao = some ⟨b, off, none⟩ ∧ fp b ∧ b < w.heap.size := by
  obtain ⟨b, off, _, h1, h2, h3, _⟩ := h.at 0 h0
  exact ⟨b, off, h1, h2, h3⟩
end Go.Proofs.Ytggcmnjllkncaaa
