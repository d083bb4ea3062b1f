/- Small lemmas of my own: worlds that extend one another, unsigned numbers; no program in sight. -/
import Derived.WalkKit
import Derived.ProofKit
import Derived.WalkSmall
import Derived.Lib.Hide
import Derived.Deep.QuietTactic
import Derived.BigQuiet
import Derived.Deep.RegionHeld3
import Derived.Deep.DeepCutAuto
namespace Go.Proofs.Ytggcmnjllkncaaa
set_option linter.unusedSimpArgs false
set_option linter.unusedVariables false
set_option maxRecDepth 100000
open Go.RowKit

/-- What a call that only makes memory leaves: old cells and old marks read as before. -/
theorem bcell {B : Nat} {W w1 : World} (hb : Below B W w1) : (∀ b o, b < B → w1.cell? ⟨b, o, none⟩ = W.cell? ⟨b, o, none⟩) ∧ (∀ b o, b < B → w1.frozen? ⟨b, o, none⟩ = W.frozen? ⟨b, o, none⟩) :=
  ⟨fun b o h => hb.cell (p := ⟨b, o, none⟩) h, fun b o h => hb.frozen (p := ⟨b, o, none⟩) h⟩


/-- a cell of which nothing is known -/
def cellX (w : World) (b o : Nat) : Option Value := w.cell? ⟨b, o, none⟩
def frozX (w : World) (b o : Nat) : Bool := w.frozen? ⟨b, o, none⟩

@[go_sem] theorem cell_alloc_ite (w : World) (c : Array Value) (t : TypeId) (n i : Nat) : (w.alloc (.cells c t)).cell? ⟨n, i, none⟩ = if n = w.heap.size then c[i]? else w.cell? ⟨n, i, none⟩ := by
  split
  · rename_i h; subst h; simp
  · rename_i h; exact World.cell?_alloc_old w _ ⟨n, i, none⟩ h
@[go_sem] theorem frozen_alloc_ite (w : World) (c : Array Value) (t : TypeId) (n i : Nat) : (w.alloc (.cells c t)).frozen? ⟨n, i, none⟩ = if n = w.heap.size then false else w.frozen? ⟨n, i, none⟩ := by
  split
  · rename_i h; subst h; simp
  · rename_i h; exact World.frozen?_alloc_old w _ ⟨n, i, none⟩ h
@[go_sem] theorem cell_set_ite (w : World) (m j n i : Nat) (v : Value) : (w.setCell ⟨m, j, none⟩ v).cell? ⟨n, i, none⟩ = if n = m then (if i = j then (w.cell? ⟨n, i, none⟩).map (fun _ => v) else w.cell? ⟨n, i, none⟩) else w.cell? ⟨n, i, none⟩ := by
  split
  · rename_i h
    subst h
    split
    · rename_i h
      subst h
      cases hc : w.cell? ⟨n, i, none⟩ with
      | some u => rw [World.cell?_setCell_same w _ v hc]; rfl
      | none =>
        simp only [World.cell?, World.setCell, Array.getElem?_modify, if_true] at hc ⊢
        cases hb : w.heap[n]? with
        | none => rfl
        | some o => cases o <;> simp_all
    · rename_i h
      exact World.cell?_setCell_other w _ _ v (by intro e; injection e with _ e2 _; exact h e2.symm)
  · rename_i h
    exact World.cell?_setCell_other w _ _ v (by intro e; injection e with e1 _ _; exact h e1.symm)
@[go_sem] theorem set_alloc_ite (w : World) (c : Array Value) (t : TypeId) (n i : Nat) (v : Value) :
    (w.alloc (.cells c t)).setCell ⟨n, i, none⟩ v = if n = w.heap.size then w.alloc (.cells (c.setIfInBounds i v) t) else (w.setCell ⟨n, i, none⟩ v).alloc (.cells c t) := by
  split
  · rename_i h; subst h; exact World.setCell_alloc_new c t i v
  · rename_i h
    by_cases hl : n < w.heap.size
    · exact World.setCell_alloc_past _ n i v hl
    · unfold World.setCell World.alloc
      simp only [World.mk.injEq, and_true, true_and]
      apply Array.ext_getElem?
      intro k
      simp only [Array.getElem?_modify, Array.getElem?_push, Array.size_modify]
      by_cases h1 : n = k
      · subst h1
        rw [if_pos rfl, if_neg h, if_neg h, if_pos rfl]
      · rw [if_neg h1, if_neg h1]

/-- What a call that only makes memory leaves, as the walk's rules. -/
theorem bext {B : Nat} {W w1 : World} (hb : Below B W w1) : (∀ b o, w1.cell? ⟨b, o, none⟩ = if b < B then W.cell? ⟨b, o, none⟩ else cellX w1 b o) ∧ (∀ b o, w1.frozen? ⟨b, o, none⟩ = if b < B then W.frozen? ⟨b, o, none⟩ else frozX w1 b o) := by
  refine ⟨fun b o => ?_, fun b o => ?_⟩
  · split
    · rename_i h; exact hb.cell (p := ⟨b, o, none⟩) h
    · rfl
  · split
    · rename_i h; exact hb.frozen (p := ⟨b, o, none⟩) h
    · rfl
theorem bhc {B : Nat} {W w1 : World} (hb : Below B W w1) : ∀ b o, b < B → w1.cell? ⟨b, o, none⟩ = W.cell? ⟨b, o, none⟩ := fun b o h => hb.cell (p := ⟨b, o, none⟩) h

/-- An extension: nothing that was there has turned. -/
theorem ext_trans {a b c : World} (h : Below a.heap.size a b) (k : Below b.heap.size b c) : Below a.heap.size a c :=
  h.trans (k.mono h.size)
theorem ext_alloc (w : World) (o : Obj) : Below w.heap.size w (w.alloc o) := (Below.refl _ _).alloc (Nat.le_refl _) _
theorem ext_drewN (w : World) (n : Nat) : Below w.heap.size w (w.drewN n) := below_drewN (Below.refl _ _) n
theorem ext_drew (w : World) : Below w.heap.size w w.drew := (Below.refl _ _).drew

theorem u64_bd (n : Int) : 0 ≤ IntKind.u64.wrap n ∧ IntKind.u64.wrap n ≤ 18446744073709551615 := by
  simp [IntKind.wrap, IntKind.bits, IntKind.signed]; omega
theorem u64_quo_w (n c : Int) (h : 1 ≤ c) : IntKind.u64.wrap ((IntKind.u64.wrap n).tdiv c) = IntKind.u64.wrap n / c :=
  IntWalk.u64_quo _ _ ⟨(u64_bd n).1, (u64_bd n).2, h⟩
theorem u64_mod (n : Int) : IntKind.u64.wrap n = n % 18446744073709551616 := by
  simp [IntKind.wrap, IntKind.bits, IntKind.signed]
end Go.Proofs.Ytggcmnjllkncaaa
