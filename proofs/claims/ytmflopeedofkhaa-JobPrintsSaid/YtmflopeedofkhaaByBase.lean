/- Texts merged into one: Base, Range, RangeT, Sl, RoundQuiet. -/
import Derived.WalkKit
import Derived.ProofKit
import Derived.WalkSmall
import Derived.Lib.Hide
import Derived.Deep.QuietTactic
import Derived.BigQuiet
import Derived.Deep.RegionHeld3
import Derived.Deep.DeepCutAuto
import Derived.RangeFuncNested
import Derived.RangeFuncBound
import Derived.RangeFuncCalls
import Derived.RangeFuncLeaves
import Derived.Shelf.Abstract
import Derived.Shelf.RegionOpen
import Derived.OwnWalkIn
import Derived.TacticsInMore
import Derived.LoopNIn
import Derived.LoopIn
import Derived.Deep.LoopGhost
import Derived.Deep.AppendSrc
import Derived.Sort.QuietIn
namespace Go.Proofs.Ytmflopeedofkhaa
set_option linter.unusedSimpArgs false
set_option linter.unusedVariables false
set_option maxRecDepth 100000
open Go.RowKit

/-- What a call that only makes memory leaves: old cells and old marks read as before. -/
theorem bcell {B : Nat} {W w1 : World} (hb : Below B W w1) : (∀ b o, b < B → w1.cell? ⟨b, o, none⟩ = W.cell? ⟨b, o, none⟩) ∧ (∀ b o, b < B → w1.frozen? ⟨b, o, none⟩ = W.frozen? ⟨b, o, none⟩) :=
  ⟨fun b o h => hb.cell (p := ⟨b, o, none⟩) h, fun b o h => hb.frozen (p := ⟨b, o, none⟩) h⟩


/-- a cell of which nothing is known -/
def cellX (w : World) (b o : Nat) : Option Value := w.cell? ⟨b, o, none⟩
def frozX (w : World) (b o : Nat) : Bool := w.frozen? ⟨b, o, none⟩

@[go_sem] theorem cell_alloc_ite (w : World) (c : Array Value) (t : TypeId) (n i : Nat) : (w.alloc (.cells c t)).cell? ⟨n, i, none⟩ = if n = w.heap.size then c[i]? else w.cell? ⟨n, i, none⟩ := by
  split
  · rename_i h; subst h; simp
  · rename_i h; exact World.cell?_alloc_old w _ ⟨n, i, none⟩ h
@[go_sem] theorem frozen_alloc_ite (w : World) (c : Array Value) (t : TypeId) (n i : Nat) : (w.alloc (.cells c t)).frozen? ⟨n, i, none⟩ = if n = w.heap.size then false else w.frozen? ⟨n, i, none⟩ := by
  split
  · rename_i h; subst h; simp
  · rename_i h; exact World.frozen?_alloc_old w _ ⟨n, i, none⟩ h
@[go_sem] theorem cell_set_ite (w : World) (m j n i : Nat) (v : Value) : (w.setCell ⟨m, j, none⟩ v).cell? ⟨n, i, none⟩ = if n = m then (if i = j then (w.cell? ⟨n, i, none⟩).map (fun _ => v) else w.cell? ⟨n, i, none⟩) else w.cell? ⟨n, i, none⟩ := by
  split
  · rename_i h
    subst h
    split
    · rename_i h
      subst h
      cases hc : w.cell? ⟨n, i, none⟩ with
      | some u => rw [World.cell?_setCell_same w _ v hc]; rfl
      | none =>
        simp only [World.cell?, World.setCell, Array.getElem?_modify, if_true] at hc ⊢
        cases hb : w.heap[n]? with
        | none => rfl
        | some o => cases o <;> simp_all
    · rename_i h
      exact World.cell?_setCell_other w _ _ v (by intro e; injection e with _ e2 _; exact h e2.symm)
  · rename_i h
    exact World.cell?_setCell_other w _ _ v (by intro e; injection e with e1 _ _; exact h e1.symm)
@[go_sem] theorem set_alloc_ite (w : World) (c : Array Value) (t : TypeId) (n i : Nat) (v : Value) :
    (w.alloc (.cells c t)).setCell ⟨n, i, none⟩ v = if n = w.heap.size then w.alloc (.cells (c.setIfInBounds i v) t) else (w.setCell ⟨n, i, none⟩ v).alloc (.cells c t) := by
  split
  · rename_i h; subst h; exact World.setCell_alloc_new c t i v
  · rename_i h
    by_cases hl : n < w.heap.size
    · exact World.setCell_alloc_past _ n i v hl
    · unfold World.setCell World.alloc
      simp only [World.mk.injEq, and_true, true_and]
      apply Array.ext_getElem?
      intro k
      simp only [Array.getElem?_modify, Array.getElem?_push, Array.size_modify]
      by_cases h1 : n = k
      · subst h1
        rw [if_pos rfl, if_neg h, if_neg h, if_pos rfl]
      · rw [if_neg h1, if_neg h1]

/-- What a call that only makes memory leaves, as the walk's rules. -/
theorem bext {B : Nat} {W w1 : World} (hb : Below B W w1) : (∀ b o, w1.cell? ⟨b, o, none⟩ = if b < B then W.cell? ⟨b, o, none⟩ else cellX w1 b o) ∧ (∀ b o, w1.frozen? ⟨b, o, none⟩ = if b < B then W.frozen? ⟨b, o, none⟩ else frozX w1 b o) := by
  refine ⟨fun b o => ?_, fun b o => ?_⟩
  · split
    · rename_i h; exact hb.cell (p := ⟨b, o, none⟩) h
    · rfl
  · split
    · rename_i h; exact hb.frozen (p := ⟨b, o, none⟩) h
    · rfl
theorem bhc {B : Nat} {W w1 : World} (hb : Below B W w1) : ∀ b o, b < B → w1.cell? ⟨b, o, none⟩ = W.cell? ⟨b, o, none⟩ := fun b o h => hb.cell (p := ⟨b, o, none⟩) h

/-- An extension: nothing that was there has turned. -/
theorem ext_trans {a b c : World} (h : Below a.heap.size a b) (k : Below b.heap.size b c) : Below a.heap.size a c :=
  h.trans (k.mono h.size)
theorem ext_alloc (w : World) (o : Obj) : Below w.heap.size w (w.alloc o) := (Below.refl _ _).alloc (Nat.le_refl _) _
theorem ext_drewN (w : World) (n : Nat) : Below w.heap.size w (w.drewN n) := below_drewN (Below.refl _ _) n
theorem ext_drew (w : World) : Below w.heap.size w w.drew := (Below.refl _ _).drew

theorem u64_bd (n : Int) : 0 ≤ IntKind.u64.wrap n ∧ IntKind.u64.wrap n ≤ 18446744073709551615 := by
  simp [IntKind.wrap, IntKind.bits, IntKind.signed]; omega
theorem u64_quo_w (n c : Int) (h : 1 ≤ c) : IntKind.u64.wrap ((IntKind.u64.wrap n).tdiv c) = IntKind.u64.wrap n / c :=
  IntWalk.u64_quo _ _ ⟨(u64_bd n).1, (u64_bd n).2, h⟩
theorem u64_mod (n : Int) : IntKind.u64.wrap n = n % 18446744073709551616 := by
  simp [IntKind.wrap, IntKind.bits, IntKind.signed]
end Go.Proofs.Ytmflopeedofkhaa

namespace Go.Proofs.Ytmflopeedofkhaa
set_option linter.unusedSimpArgs false
set_option linter.unusedVariables false
set_option maxRecDepth 100000
open Go.RowKit

@[go_sem] theorem wide_fn (f : FuncId) : Fence.wide.fn f := trivial
@[go_sem] theorem wide_depth : Fence.wide.depth = none := rfl

/-- The blocks of fp lie as they lay. -/
structure Stays (fp : Nat → Prop) (W W' : World) : Prop where
  os : W'.os = W.os
  tape : W'.tape = W.tape
  output : W'.output = W.output
  size : W.heap.size ≤ W'.heap.size
  same : ∀ k, fp k → W'.heap[k]? = W.heap[k]?

/-- Of what was there only blocks of fp may have turned. -/
structure Only (fp : Nat → Prop) (W W' : World) : Prop where
  os : W'.os = W.os
  tape : W'.tape = W.tape
  output : W'.output = W.output
  size : W.heap.size ≤ W'.heap.size
  same : ∀ k, k < W.heap.size → ¬ fp k → W'.heap[k]? = W.heap[k]?

theorem Stays.refl (fp : Nat → Prop) (W : World) : Stays fp W W := ⟨rfl, rfl, rfl, Nat.le_refl _, fun _ _ => rfl⟩
theorem Stays.trans {fp : Nat → Prop} {A B C : World} (h : Stays fp A B) (k : Stays fp B C) : Stays fp A C :=
  ⟨k.os.trans h.os, k.tape.trans h.tape, k.output.trans h.output, Nat.le_trans h.size k.size, fun i hi => (k.same i hi).trans (h.same i hi)⟩
theorem Stays.mono {fp fp' : Nat → Prop} {A B : World} (h : Stays fp A B) (hm : ∀ k, fp' k → fp k) : Stays fp' A B :=
  ⟨h.os, h.tape, h.output, h.size, fun k hk => h.same k (hm k hk)⟩
theorem Stays.cell {fp : Nat → Prop} {A B : World} (h : Stays fp A B) {b : Nat} (hb : fp b) (o : Nat) : B.cell? ⟨b, o, none⟩ = A.cell? ⟨b, o, none⟩ := World.cell?_of_block (w := A) (h.same b hb)
theorem Stays.frozen {fp : Nat → Prop} {A B : World} (h : Stays fp A B) {b : Nat} (hb : fp b) (o : Nat) : B.frozen? ⟨b, o, none⟩ = A.frozen? ⟨b, o, none⟩ := World.frozen?_of_block (w := A) (h.same b hb)

theorem Only.refl (fp : Nat → Prop) (W : World) : Only fp W W := ⟨rfl, rfl, rfl, Nat.le_refl _, fun _ _ _ => rfl⟩
theorem Only.mono {fp fp' : Nat → Prop} {A B : World} (h : Only fp A B) (hm : ∀ k, k < A.heap.size → fp k → fp' k) : Only fp' A B :=
  ⟨h.os, h.tape, h.output, h.size, fun k hk hn => h.same k hk (fun e => hn (hm k hk e))⟩
theorem Only.trans {fp fp' : Nat → Prop} {A B C : World} (h : Only fp A B) (k : Only fp' B C) (hf : ∀ i, i < A.heap.size → fp' i → fp i) : Only fp A C :=
  ⟨k.os.trans h.os, k.tape.trans h.tape, k.output.trans h.output, Nat.le_trans h.size k.size,
    fun i hi hn => (k.same i (Nat.lt_of_lt_of_le hi h.size) (fun e => hn (hf i hi e))).trans (h.same i hi hn)⟩
theorem Only.of_below {fp : Nat → Prop} {A B : World} (h : Below A.heap.size A B) : Only fp A B := ⟨h.os, h.tape, h.output, h.size, fun k hk _ => h.block k hk⟩
theorem Only.below {fp : Nat → Prop} {A B : World} {n : Nat} (h : Only fp A B) (hn : n ≤ A.heap.size) (hf : ∀ k, k < n → ¬ fp k) : Below n A B :=
  ⟨h.os, h.tape, h.output, h.size, fun k hk => h.same k (Nat.lt_of_lt_of_le hk hn) (hf k hk)⟩
theorem Only.alloc {fp : Nat → Prop} {A B : World} (h : Only fp A B) (o : Obj) : Only fp A (B.alloc o) := h.trans (fp' := fun _ => False) (Only.of_below (ext_alloc B o)) (fun _ _ e => e.elim)
theorem Only.drew {fp : Nat → Prop} {A B : World} (h : Only fp A B) : Only fp A B.drew := h.trans (fp' := fun _ => False) (Only.of_below (ext_drew B)) (fun _ _ e => e.elim)
theorem Only.drewN {fp : Nat → Prop} {A B : World} (h : Only fp A B) (n : Nat) : Only fp A (B.drewN n) := h.trans (fp' := fun _ => False) (Only.of_below (ext_drewN B n)) (fun _ _ e => e.elim)
theorem Only.setCell {fp : Nat → Prop} {A B : World} (h : Only fp A B) {p : Addr} (hp : p.block < A.heap.size → fp p.block) (v : Value) : Only fp A (B.setCell p v) :=
  h.trans (fp' := fun k => k = p.block) ⟨rfl, rfl, rfl, by simp [World.setCell], fun k _ hn => Below.heap_setCell _ _ _ _ hn⟩ (fun i hi e => by subst e; exact hp hi)
theorem Only.ext {fp : Nat → Prop} {A B C : World} (h : Only fp A B) (k : Below B.heap.size B C) : Only fp A C := h.trans (fp' := fun _ => False) (Only.of_below k) (fun _ _ e => e.elim)
theorem Only.putObj {fp : Nat → Prop} {A B : World} (h : Only fp A B) {l : Nat} (o : Obj) (hp : l < A.heap.size → fp l) : Only fp A (B.putObj l o) :=
  h.trans (fp' := fun k => k = l) ⟨rfl, rfl, rfl, by simp, fun k _ hn => World.putObj_heap_other hn⟩ (fun i hi e => by subst e; exact hp hi)
theorem Only.cell {fp : Nat → Prop} {A B : World} (h : Only fp A B) {b : Nat} (hb : b < A.heap.size) (hn : ¬ fp b) (o : Nat) : B.cell? ⟨b, o, none⟩ = A.cell? ⟨b, o, none⟩ := World.cell?_of_block (w := A) (h.same b hb hn)
theorem Only.frozen {fp : Nat → Prop} {A B : World} (h : Only fp A B) {b : Nat} (hb : b < A.heap.size) (hn : ¬ fp b) (o : Nat) : B.frozen? ⟨b, o, none⟩ = A.frozen? ⟨b, o, none⟩ := World.frozen?_of_block (w := A) (h.same b hb hn)
theorem Only.stays {fp gp : Nat → Prop} {A B : World} (h : Only fp A B) (hg : ∀ k, gp k → k < A.heap.size ∧ ¬ fp k) : Stays gp A B := ⟨h.os, h.tape, h.output, h.size, fun k hk => h.same k (hg k hk).1 (hg k hk).2⟩

/-- A part's step forward: only its own blocks have turned; its blocks behind it are its own or new. -/
structure Fwd (fp fp' : Nat → Prop) (W W' : World) : Prop where
  only : Only fp W W'
  own : ∀ k, fp' k → (fp k ∨ W.heap.size ≤ k) ∧ k < W'.heap.size

theorem Fwd.const {fp : Nat → Prop} {W W' : World} (h : Only fp W W') (hf : ∀ k, fp k → k < W.heap.size) : Fwd fp fp W W' :=
  ⟨h, fun k hk => ⟨.inl hk, Nat.lt_of_lt_of_le (hf k hk) h.size⟩⟩

/-- **THE ITERATOR's CONTRACT.** 'ok': which lists may have come; 'S': all have come; 'Bd': what the caller promises of what has come so far (of an iterator without an end: no more than ..); 'R x': what holds of an element as it comes; 'Pre': what the iterator reads; 'Rs': the blocks that it wants left alone by the caller's rounds; 'It': those that it may turn. -/
def IterR {α : Type} (P : Program) (g : Nat) (lb : Array Value) (encs : α → Array Value) (ok S Bd : List α → Prop) (R : List α → α → World → Prop) (Pre : World → Prop) (Rs It : Nat → Prop) : Prop :=
  ∀ (l : Nat) (J Jx : List α → (Nat → Prop) → World → Prop) (fp : Nat → Prop) (W : World), Pre W → (∀ k, fp k → k < W.heap.size ∧ ¬ Rs k) →
    (∀ pre fp A B, J pre fp A → Stays fp A B → J pre fp B) → (∀ pre fp A B, Jx pre fp A → Stays fp A B → Jx pre fp B) →
    (∀ pre fp A, J pre fp A → Bd pre) →
    (∀ pre fq x W1, J pre fq W1 → (∀ k, fq k → k < W1.heap.size) → Only (fun k => fp k ∨ It k) W W1 → ok (pre ++ [x]) → R pre x W1 → YieldAt Fence.wide 0 P l (encs x) W1 fun e W' =>
      ∃ fp', Fwd fq fp' W1 W' ∧ ((e = .returned (.bool true) ∧ J (pre ++ [x]) fp' W') ∨ (e = .returned (.bool false) ∧ Jx (pre ++ [x]) fp' W'))) →
    J [] fp W →
    CallsIn Fence.wide 0 P g (#[.func (.yield l) #[] #[]] ++ lb) W fun e W' => (∃ v, e = .returned v) ∧
      ∃ xs fp', Fwd (fun k => fp k ∨ It k) fp' W W' ∧ (∀ k, fp' k → fp k ∨ W.heap.size ≤ k) ∧ ((S xs ∧ J xs fp' W') ∨ (ok xs ∧ Jx xs fp' W'))
/-- .. where what it reads is what it may turn -/
abbrev Iter {α : Type} (P : Program) (g : Nat) (lb : Array Value) (encs : α → Array Value) (ok S Bd : List α → Prop) (R : List α → α → World → Prop) (Pre : World → Prop) (It : Nat → Prop) : Prop := IterR P g lb encs ok S Bd R Pre It It

theorem J_ext {α : Type} {J : List α → (Nat → Prop) → World → Prop} (hJ : ∀ pre fp A B, J pre fp A → Stays fp A B → J pre fp B) {pre : List α} {fp : Nat → Prop} {A B : World}
    (h : J pre fp A) (hf : ∀ k, fp k → k < A.heap.size) (hb : Below A.heap.size A B) : J pre fp B :=
  hJ _ _ _ _ h ⟨hb.os, hb.tape, hb.output, hb.size, fun k hk => hb.block k (hf k hk)⟩
theorem Fwd.refl {fp : Nat → Prop} {W : World} (hf : ∀ k, fp k → k < W.heap.size) : Fwd fp fp W W := Fwd.const (Only.refl _ _) hf
theorem Fwd.trans {fp fp' fp'' : Nat → Prop} {A B C : World} (h : Fwd fp fp' A B) (k : Fwd fp' fp'' B C) : Fwd fp fp'' A C :=
  ⟨h.only.trans k.only (fun i hi e => ((h.own i e).1).elim id (fun h => by omega)),
   fun i hi => ⟨(k.own i hi).1.elim (fun h' => (h.own i h').1) (fun h' => .inr (Nat.le_trans h.only.size h')), (k.own i hi).2⟩⟩
theorem Fwd.ext {fp fp' : Nat → Prop} {A B C : World} (h : Fwd fp fp' A B) (k : Below B.heap.size B C) : Fwd fp fp' A C :=
  ⟨h.only.ext k, fun i hi => ⟨(h.own i hi).1, Nat.lt_of_lt_of_le (h.own i hi).2 k.size⟩⟩
theorem Fwd.wider {fp fp' gp : Nat → Prop} {A B : World} (h : Fwd fp fp' A B) (hg : ∀ k, fp k → gp k) : Fwd gp fp' A B :=
  ⟨h.only.mono (fun k _ hk => hg k hk), fun i hi => ⟨(h.own i hi).1.imp (hg i) id, (h.own i hi).2⟩⟩
theorem leastOf_le {p : Nat → Prop} {m : Nat} (h : p m) : leastOf p ≤ m := (leastOf_spec ⟨m, h⟩).2 m h

/-- How a round may be left. -/
def roundEnd {α : Type} (fp : Nat → Prop) (W : World) (I : List α → (Nat → Prop) → World → Prop) (Ix : Code → List α → (Nat → Prop) → World → Prop) (xs : List α) : Exit → Act → World → Prop
  | .normal, _, W' => ∃ fp', Fwd fp fp' W W' ∧ I xs fp' W'
  | .ret, _, W' => ∃ fp', Fwd fp fp' W W' ∧ Ix .ret xs fp' W'
  | .exit id, _, W' => ∃ fp', Fwd fp fp' W W' ∧ Ix (.exit id) xs fp' W'
  | .goto t, _, W' => ∃ fp', Fwd fp fp' W W' ∧ Ix (.goto t) xs fp' W'
  | .panic _, _, _ => False
  | .outgrown, _, _ => False

variable {P : Program} {α : Type} {g : Operand} {ps : Array Tmp} {assign body : Code} {Q : Exit → Act → World → Prop} {a : Act} {w : World}

/-- ONE ROUND, its record among the caller's blocks. -/
theorem round_law {encs : α → Array Value} (I : List α → (Nat → Prop) → World → Prop) (Ix : Code → List α → (Nat → Prop) → World → Prop)
    (hI : ∀ pre fp A B, I pre fp A → Stays fp A B → I pre fp B) (hIx : ∀ c pre fp A B, Ix c pre fp A → Stays fp A B → Ix c pre fp B)
    (Ax : List α → α → Act → World → Prop) (hAx : ∀ pre x a' A l r r', A.heap[l]? = some (.loop r) → Ax pre x a' A → Ax pre x a' (A.putObj l (.loop r')))
    (l : Nat) (fn : FuncId) (dn : Nat) (hps : ∀ x, (encs x).size = ps.size)
    (pre : List α) (fp : Nat → Prop) (x : α) (W : World) (hi : I pre fp W) (hfp : ∀ k, fp k → k < W.heap.size) (hnl : ¬ fp l)
    (hl : W.heap[l]? = some (.loop { state := .ready, pending := none, fn, tmps := a.tmps, params := ps, assign, body, defers := dn }))
    (hassign : ∀ (K : Act → World → Prop), (∀ a' W', Only (fun _ => False) W W' → Ax pre x a' W' → K a' W') →
      assign.wpIn (Fence.wide.inRound l) 0 P (Exit.then K (fun _ _ _ => False)) { tmps := (ps.zip (encs x)).foldl (fun t (p, v) => t.setIfInBounds p v) a.tmps, defers := [] } W)
    (hbody : ∀ (a' : Act) (W' : World), W.heap.size ≤ W'.heap.size → (∃ r, W'.heap[l]? = some (.loop r)) → I pre fp W' → Ax pre x a' W' → Only (fun k => k = l) W W' →
      body.wpIn (Fence.wide.inRound l) 0 P (roundEnd fp W' I Ix (pre ++ [x])) a' W') :
    YieldAt Fence.wide 0 P l (encs x) W fun e W' =>
      ∃ fp', Fwd (fun k => fp k ∨ k = l) (fun k => fp' k ∨ k = l) W W' ∧ ¬ fp' l ∧
      ((e = .returned (.bool true) ∧ I (pre ++ [x]) fp' W' ∧ W'.heap[l]? = some (.loop { state := .ready, pending := none, fn, tmps := a.tmps, params := ps, assign, body, defers := dn })) ∨
       (e = .returned (.bool false) ∧ ∃ c, Ix c (pre ++ [x]) fp' W' ∧ W'.heap[l]? = some (.loop { state := .done, pending := some c, fn, tmps := a.tmps, params := ps, assign, body, defers := dn }))) := by
  obtain ⟨rec, hrec⟩ : ∃ rec : LoopState → Option Code → Loop, rec = fun st pe => { state := st, pending := pe, fn, tmps := a.tmps, params := ps, assign, body, defers := dn } := ⟨_, rfl⟩
  have hr1 : ∀ st pe, ({ state := st, pending := pe, fn, tmps := a.tmps, params := ps, assign, body, defers := dn } : Loop) = rec st pe := fun st pe => by rw [hrec]
  simp only [hr1] at hl ⊢
  have hlt : l < W.heap.size := (Array.getElem?_eq_some_iff.1 hl).1
  have hy := run_yield (P := P) (args := encs x) hl (by rw [hrec]; exact hps x)
  rw [hrec] at hy
  refine ⟨fn, _, assign, body, hy, roundIn_of_wpIn trivial (hassign _ ?_)⟩
  clear hy
  intro a' Wa honly hax
  have hl' : Wa.heap[l]? = some (.loop (rec .ready none)) := (honly.same l hlt (fun h => h)).trans hl
  have hlta : l < Wa.heap.size := (Array.getElem?_eq_some_iff.1 hl').1
  refine ⟨_, run_beginRound hl' (by rw [hrec]), ?_⟩
  have hl2 : (Wa.putObj l (.loop { rec .ready none with state := .busy })).heap[l]? = some (.loop { rec .ready none with state := .busy }) := World.putObj_heap_same hlta
  have ho2 : Only (fun k => k = l) W (Wa.putObj l (.loop { rec .ready none with state := .busy })) := (honly.mono (fun _ _ e => e.elim)).putObj _ (fun _ => rfl)
  have hi2 : I pre fp (Wa.putObj l (.loop { rec .ready none with state := .busy })) :=
    hI _ _ _ _ hi (ho2.stays (fun k hk => ⟨hfp k hk, fun e => hnl (e ▸ hk)⟩))
  have hsz2 : W.heap.size ≤ (Wa.putObj l (.loop { rec .ready none with state := .busy })).heap.size := ho2.size
  refine wpIn_mono (hbody a' _ hsz2 ⟨_, hl2⟩ hi2 (hAx _ _ _ _ _ _ _ hl' hax) ho2) ?_
  generalize hWb : Wa.putObj l (.loop { rec .ready none with state := .busy }) = Wb at hl2 ho2 hi2 hsz2 ⊢
  have fin : ∀ (jump : Option Code) (fp' : Nat → Prop) (W3 : World), Fwd fp fp' Wb W3 →
      (Instr.endRound l jump).run P W3 = .ok (.bool jump.isNone) (W3.putObj l (.loop (rec (if jump.isNone then .ready else .done) jump))) ∧
      (W3.putObj l (.loop (rec (if jump.isNone then .ready else .done) jump))).heap[l]? = some (.loop (rec (if jump.isNone then .ready else .done) jump)) ∧
      ¬ fp' l ∧ Stays fp' W3 (W3.putObj l (.loop (rec (if jump.isNone then .ready else .done) jump))) ∧
      Fwd (fun k => fp k ∨ k = l) (fun k => fp' k ∨ k = l) W (W3.putObj l (.loop (rec (if jump.isNone then .ready else .done) jump))) := fun jump fp' W3 hf => by
    have hltb : l < Wb.heap.size := (Array.getElem?_eq_some_iff.1 hl2).1
    have hl3 : W3.heap[l]? = some (.loop { rec .ready none with state := .busy }) := (hf.only.same l hltb hnl).trans hl2
    have hn : ¬ fp' l := fun h => (hf.own l h).1.elim hnl (fun h => by omega)
    have := run_endRound (P := P) jump hl3
    rw [hrec] at this ⊢
    refine ⟨this, World.putObj_heap_same (Array.getElem?_eq_some_iff.1 hl3).1, hn, ⟨rfl, rfl, rfl, by simp, fun k hk => World.putObj_heap_other (fun e => hn (e ▸ hk))⟩, ?_, ?_⟩
    · exact ((ho2.mono (fp' := fun k => fp k ∨ k = l) (fun _ _ e => .inr e)).trans hf.only (fun i _ h => .inl h)).putObj _ (fun _ => .inr rfl)
    · intro k hk
      have hs3 : W3.heap.size = (W3.putObj l (.loop { state := if jump.isNone then .ready else .done, pending := jump, fn, tmps := a.tmps, params := ps, assign, body, defers := dn })).heap.size := by simp
      rw [← hs3]
      rcases hk with hk | rfl
      · obtain ⟨h1, h2⟩ := hf.own k hk
        exact ⟨h1.elim (fun h => .inl (.inl h)) (fun h => .inr (by omega)), h2⟩
      · exact ⟨.inl (.inr rfl), (Array.getElem?_eq_some_iff.1 hl3).1⟩
  rintro e a3 W3 hp
  cases e with
  | normal =>
    obtain ⟨fp', hf, hi3⟩ := hp
    obtain ⟨hr, hl4, hn, hst, hfw⟩ := fin none fp' W3 hf
    exact ⟨_, _, hr, fp', hfw, hn, .inl ⟨rfl, hI _ _ _ _ hi3 hst, hl4⟩⟩
  | ret =>
    obtain ⟨fp', hf, hi3⟩ := hp
    obtain ⟨hr, hl4, hn, hst, hfw⟩ := fin (some .ret) fp' W3 hf
    exact ⟨_, _, hr, fp', hfw, hn, .inr ⟨rfl, .ret, hIx _ _ _ _ _ hi3 hst, hl4⟩⟩
  | exit id =>
    obtain ⟨fp', hf, hi3⟩ := hp
    obtain ⟨hr, hl4, hn, hst, hfw⟩ := fin (some (.exit id)) fp' W3 hf
    exact ⟨_, _, hr, fp', hfw, hn, .inr ⟨rfl, .exit id, hIx _ _ _ _ _ hi3 hst, hl4⟩⟩
  | goto t =>
    obtain ⟨fp', hf, hi3⟩ := hp
    obtain ⟨hr, hl4, hn, hst, hfw⟩ := fin (some (.goto t)) fp' W3 hf
    exact ⟨_, _, hr, fp', hfw, hn, .inr ⟨rfl, .goto t, hIx _ _ _ _ _ hi3 hst, hl4⟩⟩
  | panic ch => exact hp.elim
  | outgrown => exact hp.elim

/-- **THE STATEMENT, outside every round.** -/
theorem wpIn_range {gf : Nat} {lb : Array Value} (hg : a.eval g = .func (.func gf) #[] lb) (eg : ∀ args w, (callFunc gf args).run P w = .ok (.enter gf args) w)
    {encs : α → Array Value} {ok S Bd : List α → Prop} {R : List α → α → World → Prop} {Pre : World → Prop} {Rs It : Nat → Prop} (hit : IterR P gf lb encs ok S Bd R Pre Rs It)
    (hps : ∀ x, (encs x).size = ps.size)
    (fp0 : Nat → Prop) (hfp : ∀ k, fp0 k → k < w.heap.size ∧ ¬ Rs k) (hItb : ∀ k, Rs k → k < w.heap.size)
    (I : List α → (Nat → Prop) → World → Prop) (Ix : Code → List α → (Nat → Prop) → World → Prop)
    (hI : ∀ pre fp A B, I pre fp A → Stays fp A B → I pre fp B) (hIx : ∀ c pre fp A B, Ix c pre fp A → Stays fp A B → Ix c pre fp B)
    (hBd : ∀ pre fp A, I pre fp A → Bd pre)
    (Ax : List α → α → Act → World → Prop) (hAx : ∀ pre x a' A l r r', A.heap[l]? = some (.loop r) → Ax pre x a' A → Ax pre x a' (A.putObj l (.loop r')))
    (hPre : ∀ W, Below w.heap.size w W → Pre W) (h0 : I [] fp0 w)
    (hassign : ∀ (l : Nat) (pre : List α) (fp : Nat → Prop) (x : α) (W : World) (K : Act → World → Prop), w.heap.size ≤ W.heap.size → Only (fun k => fp0 k ∨ It k) w W → ok (pre ++ [x]) → R pre x W → I pre fp W →
      (∀ a' W', Only (fun _ => False) W W' → Ax pre x a' W' → K a' W') →
      assign.wpIn (Fence.wide.inRound l) 0 P (Exit.then K (fun _ _ _ => False)) { tmps := (ps.zip (encs x)).foldl (fun t (p, v) => t.setIfInBounds p v) a.tmps, defers := [] } W)
    (hbody : ∀ (l : Nat) (pre : List α) (fp : Nat → Prop) (x : α) (a' : Act) (W W0 : World), w.heap.size ≤ l → (∃ r, W.heap[l]? = some (.loop r)) → Only (fun k => fp0 k ∨ It k) w W → ok (pre ++ [x]) → R pre x W0 → Only (fun k => k = l) W0 W → ¬ fp l →
      (∀ k, fp k → k < W.heap.size) → I pre fp W → Ax pre x a' W → w.heap.size ≤ W.heap.size →
      body.wpIn (Fence.wide.inRound l) 0 P (roundEnd fp W I Ix (pre ++ [x])) a' W)
    (hdone : ∀ (D : Nat) (xs : List α) (fp' : Nat → Prop) (W : World), w.heap.size ≤ D → S xs → I xs fp' W → Only (fun k => fp0 k ∨ It k) w W → (∀ k, fp' k → fp0 k ∨ w.heap.size ≤ k) → (∀ k, fp' k → k < W.heap.size) → ¬ fp' D → W.heap[D]? = some (.deferred (some [])) →
      Q .normal { a with defers := { target := .collected D, args := #[] } :: a.defers } W)
    (hstop : ∀ (D : Nat) (c : Code) (xs : List α) (fp' : Nat → Prop) (W : World), w.heap.size ≤ D → ok xs → Ix c xs fp' W → Only (fun k => fp0 k ∨ It k) w W → (∀ k, fp' k → fp0 k ∨ w.heap.size ≤ k) → (∀ k, fp' k → k < W.heap.size) → ¬ fp' D → W.heap[D]? = some (.deferred (some [])) →
      c.wpIn Fence.wide 0 P Q { a with defers := { target := .collected D, args := #[] } :: a.defers } W) :
    (Code.rangeFunc g ps assign body).wpIn Fence.wide 0 P Q a w := by
  refine wpIn_rangeFunc ?_
  intro fn _
  obtain ⟨rec, hrec⟩ : ∃ rec : LoopState → Option Code → Loop, rec = fun st pe => { state := st, pending := pe, fn, tmps := a.tmps, params := ps, assign, body, defers := w.heap.size } := ⟨_, rfl⟩
  obtain ⟨W1, hW1⟩ : ∃ W1, (w.alloc (.deferred (some []))).alloc (.loop (rec .ready none)) = W1 := ⟨_, rfl⟩
  have hL1 : W1.heap[w.heap.size + 1]? = some (.loop (rec .ready none)) := by
    rw [← hW1]; have := World.alloc_heap_new (w.alloc (.deferred (some []))) (.loop (rec .ready none)); rwa [World.size_alloc] at this
  have hK1 : W1.heap[w.heap.size]? = some (.deferred (some [])) := by
    rw [← hW1]; exact (Below.heap_alloc _ _ _ (by simp)).trans (World.alloc_heap_new w _)
  have hsz1 : W1.heap.size = w.heap.size + 2 := by rw [← hW1]; simp
  have hb1 : Below w.heap.size w W1 := by rw [← hW1]; exact (ext_alloc w _).trans ((Below.refl _ _).alloc (by simp) _)
  have hI1 : I [] fp0 W1 := hI _ _ _ _ h0 ⟨hb1.os, hb1.tape, hb1.output, hb1.size, fun k hk => hb1.block k (hfp k hk).1⟩
  refine ⟨w.heap.size + 1, [{ target := .collected w.heap.size, args := #[] }], W1, { target := .fn (.func gf) lb, args := #[.func (.yield (w.heap.size + 1)) #[] #[]] }, W1, gf,
    #[.func (.yield (w.heap.size + 1)) #[] #[]] ++ lb, W1, ?_, ?_, fun _ _ => trivial, ?_, fun h => by simp [Fence.wide] at h, ?_⟩
  · rw [← hW1, hrec]; exact run_enterLoop_outer _ _ _ _ _
  · simp only [resolve, hg]
    simp [go_sem]
  · simp [invoke, go_sem, eg]
  · have spl : ∀ {fp : Nat → Prop} {A B : World}, Stays (fun k => fp k ∨ k = w.heap.size + 1 ∨ k = w.heap.size) A B → Stays fp A B ∧ B.heap[w.heap.size + 1]? = A.heap[w.heap.size + 1]? ∧ B.heap[w.heap.size]? = A.heap[w.heap.size]? :=
      fun h => ⟨h.mono fun k hk => .inl hk, h.same _ (.inr (.inl rfl)), h.same _ (.inr (.inr rfl))⟩
    have hitf : ∀ k, (fp0 k ∨ k = w.heap.size + 1 ∨ k = w.heap.size) → k < W1.heap.size ∧ ¬ Rs k := by
      rintro k (hk | rfl | rfl)
      · exact ⟨by have := (hfp k hk).1; omega, (hfp k hk).2⟩
      · exact ⟨by omega, fun h => by have := hItb _ h; omega⟩
      · exact ⟨by omega, fun h => by have := hItb _ h; omega⟩
    refine (hit (w.heap.size + 1)
      (fun pre fpp W => ∃ fp, (∀ k, fpp k ↔ (fp k ∨ k = w.heap.size + 1 ∨ k = w.heap.size)) ∧ ¬ fp (w.heap.size + 1) ∧ ¬ fp w.heap.size ∧ I pre fp W ∧ W.heap[w.heap.size + 1]? = some (.loop (rec .ready none)) ∧ W.heap[w.heap.size]? = some (.deferred (some [])) ∧ w.heap.size ≤ W.heap.size)
      (fun pre fpp W => ∃ fp, (∀ k, fpp k ↔ (fp k ∨ k = w.heap.size + 1 ∨ k = w.heap.size)) ∧ ¬ fp (w.heap.size + 1) ∧ ¬ fp w.heap.size ∧ (∃ c, Ix c pre fp W ∧ W.heap[w.heap.size + 1]? = some (.loop (rec .done (some c)))) ∧ W.heap[w.heap.size]? = some (.deferred (some [])))
      (fun k => fp0 k ∨ k = w.heap.size + 1 ∨ k = w.heap.size) W1 (hPre W1 hb1) hitf ?_ ?_ ?_ ?_
      ⟨fp0, fun _ => Iff.rfl, fun h => by have := (hfp _ h).1; omega, fun h => by have := (hfp _ h).1; omega, hI1, hL1, hK1, by omega⟩).mono ?_
    · rintro pre fpp A B ⟨fp, hf, hn1, hn2, hi, hl, hk, hs⟩ hst
      obtain ⟨s1, s2, s3⟩ := spl (fp := fp) (hst.mono fun k hk => (hf k).2 hk)
      exact ⟨fp, hf, hn1, hn2, hI _ _ _ _ hi s1, s2.trans hl, s3.trans hk, Nat.le_trans hs hst.size⟩
    · rintro pre fpp A B ⟨fp, hf, hn1, hn2, ⟨c, hi, hl⟩, hk⟩ hst
      obtain ⟨s1, s2, s3⟩ := spl (fp := fp) (hst.mono fun k hk => (hf k).2 hk)
      exact ⟨fp, hf, hn1, hn2, ⟨c, hIx _ _ _ _ _ hi s1, s2.trans hl⟩, s3.trans hk⟩
    · rintro pre fpp A ⟨fp, _, _, _, hi, _⟩
      exact hBd _ _ _ hi
    · rintro pre fpp x W ⟨fp, hf, hn1, hn2, hi, hl, hk, hs⟩ hlt honl hok hR
      have hov : Only (fun k => fp0 k ∨ It k) w W := by
        refine (Only.of_below (fp := fun k => fp0 k ∨ It k) hb1).trans honl ?_
        rintro i hi ((h | h | h) | h)
        · exact .inl h
        · omega
        · omega
        · exact .inr h
      rw [hrec] at hl
      have hfp' : ∀ k, fp k → k < W.heap.size := fun k h => hlt k ((hf k).2 (.inl h))
      obtain ⟨fn', tmps', assign', body', hy, hro⟩ := round_law (P := P) I Ix hI hIx Ax hAx (w.heap.size + 1) fn w.heap.size hps pre fp x W hi hfp' hn1 hl
        (fun K hK => hassign _ pre fp x W K hs hov hok hR hi hK)
        (fun a' W' hsz hr hi' hax ho => hbody _ pre fp x a' W' W (by omega) hr (hov.trans ho (fun i hi e => by omega)) hok hR ho hn1 (fun k hk => by have := hfp' k hk; omega) hi' hax (by omega))
      refine ⟨fn', tmps', assign', body', hy, hro.mono ?_⟩
      rintro e W' ⟨fp', hfw, hn', hor⟩
      have hkd : W'.heap[w.heap.size]? = some (.deferred (some [])) :=
        (hfw.only.same _ (Array.getElem?_eq_some_iff.1 hk).1 (fun h => h.elim hn2 (fun h => by omega))).trans hk
      have hnd : ¬ fp' w.heap.size := fun h => (hfw.own _ (.inl h)).1.elim (fun h => h.elim hn2 (fun h => by omega)) (fun h => by have := (Array.getElem?_eq_some_iff.1 hk).1; omega)
      refine ⟨fun k => fp' k ∨ k = w.heap.size + 1 ∨ k = w.heap.size, ⟨hfw.only.mono ?_, ?_⟩, ?_⟩
      · rintro k _ (h | h)
        · exact (hf k).2 (.inl h)
        · exact (hf k).2 (.inr (.inl h))
      · rintro k (h | h | h)
        · obtain ⟨h1, h2⟩ := hfw.own k (.inl h)
          exact ⟨h1.elim (fun h => .inl ((hf k).2 (h.elim .inl (fun h => .inr (.inl h))))) .inr, h2⟩
        · exact ⟨.inl ((hf k).2 (.inr (.inl h))), by subst h; exact (hfw.own _ (.inr rfl)).2⟩
        · exact ⟨.inl ((hf k).2 (.inr (.inr h))), by subst h; exact (Array.getElem?_eq_some_iff.1 hkd).1⟩
      · rcases hor with ⟨rfl, hi', hl'⟩ | ⟨rfl, c, hi', hl'⟩
        · exact .inl ⟨rfl, fp', fun _ => Iff.rfl, hn', hnd, hi', by rw [hrec]; exact hl', hkd, Nat.le_trans hs hfw.only.size⟩
        · exact .inr ⟨rfl, fp', fun _ => Iff.rfl, hn', hnd, ⟨c, hi', by rw [hrec]; exact hl'⟩, hkd⟩
    · have hfin : ∀ (fpp : Nat → Prop) (W2 : World) (r' : Loop), Fwd (fun k => (fp0 k ∨ k = w.heap.size + 1 ∨ k = w.heap.size) ∨ It k) fpp W1 W2 → W2.heap[w.heap.size]? = some (.deferred (some [])) →
          Only (fun k => fp0 k ∨ It k) w (W2.putObj (w.heap.size + 1) (.loop r')) ∧ (W2.putObj (w.heap.size + 1) (.loop r')).heap[w.heap.size]? = some (.deferred (some [])) := fun fpp W2 r' hf hk => by
        refine ⟨?_, (World.putObj_heap_other (by omega)).trans hk⟩
        refine ((Only.of_below (fp := fun k => fp0 k ∨ It k) hb1).trans (fp' := fun k => (fp0 k ∨ k = w.heap.size + 1 ∨ k = w.heap.size) ∨ It k) hf.only ?_).putObj _ (fun h => by omega)
        rintro i hi ((h | h | h) | h)
        · exact .inl h
        · omega
        · omega
        · exact .inr h
      rintro e W2 ⟨⟨v, rfl⟩, xs, fpp, hfw, hfo, (⟨hS, fp', hf, hn1, hn2, hi, hl, hk, _⟩ | ⟨hS, fp', hf, hn1, hn2, ⟨c, hi, hl⟩, hk⟩)⟩
      · obtain ⟨ho, hk2⟩ := hfin fpp W2 { rec .ready none with state := .exhausted } hfw hk
        have hrn := run_endLoop (P := P) hl (by rw [hrec]; simp)
        refine ⟨none, _, by rw [hrec] at hrn; exact hrn, ?_⟩
        refine hdone _ xs fp' _ (Nat.le_refl _) hS (hI _ _ _ _ hi ⟨rfl, rfl, rfl, by simp, fun k hk => World.putObj_heap_other (fun e => hn1 (e ▸ hk))⟩) (by rw [hrec] at ho; exact ho) ?_ ?_ hn2 (by rw [hrec] at hk2; exact hk2)
        · intro k hk'
          rcases hfo k ((hf k).2 (.inl hk')) with (h | h | h) | h
          · exact .inl h
          · exact absurd (h ▸ hk') hn1
          · exact absurd (h ▸ hk') hn2
          · exact .inr (by omega)
        · intro k hk'; simpa using (hfw.own k ((hf k).2 (.inl hk'))).2
      · obtain ⟨ho, hk2⟩ := hfin fpp W2 { rec .done (some c) with state := .exhausted } hfw hk
        have hrn := run_endLoop (P := P) hl (by rw [hrec]; simp)
        refine ⟨some c, _, by rw [hrec] at hrn; exact hrn, ?_⟩
        refine hstop _ c xs fp' _ (Nat.le_refl _) hS (hIx _ _ _ _ _ hi ⟨rfl, rfl, rfl, by simp, fun k hk => World.putObj_heap_other (fun e => hn1 (e ▸ hk))⟩) (by rw [hrec] at ho; exact ho) ?_ ?_ hn2 (by rw [hrec] at hk2; exact hk2)
        · intro k hk'
          rcases hfo k ((hf k).2 (.inl hk')) with (h | h | h) | h
          · exact .inl h
          · exact absurd (h ▸ hk') hn1
          · exact absurd (h ▸ hk') hn2
          · exact .inr (by omega)
        · intro k hk'; simpa using (hfw.own k ((hf k).2 (.inl hk'))).2

/-- How a round may be left, the caller's blocks fixed. -/
def roundEnd1 {α : Type} (fp : Nat → Prop) (W : World) (I : List α → World → Prop) (Ix : Code → List α → World → Prop) (xs : List α) : Exit → Act → World → Prop
  | .normal, _, W' => Only fp W W' ∧ I xs W'
  | .ret, _, W' => Only fp W W' ∧ Ix .ret xs W'
  | .exit id, _, W' => Only fp W W' ∧ Ix (.exit id) xs W'
  | .goto t, _, W' => Only fp W W' ∧ Ix (.goto t) xs W'
  | .panic _, _, _ => False
  | .outgrown, _, _ => False

/-- **THE STATEMENT, outside every round; the caller's blocks fixed; the loop's variables in slots.** -/
theorem wpIn_range1 {gf : Nat} {lb : Array Value} (hg : a.eval g = .func (.func gf) #[] lb) (eg : ∀ args w, (callFunc gf args).run P w = .ok (.enter gf args) w)
    {encs : α → Array Value} {ok S Bd : List α → Prop} {R : List α → α → World → Prop} {Pre : World → Prop} {Rs It : Nat → Prop} (hit : IterR P gf lb encs ok S Bd R Pre Rs It)
    (hps : ∀ x, (encs x).size = ps.size)
    (fp : Nat → Prop) (hfp : ∀ k, fp k → k < w.heap.size ∧ ¬ Rs k) (hItb : ∀ k, Rs k → k < w.heap.size)
    (I : List α → World → Prop) (Ix : Code → List α → World → Prop)
    (hI : ∀ pre A B, I pre A → Stays fp A B → I pre B) (hIx : ∀ c pre A B, Ix c pre A → Stays fp A B → Ix c pre B)
    (hBd : ∀ pre A, I pre A → Bd pre)
    (hPre : ∀ W, Below w.heap.size w W → Pre W) (h0 : I [] w) (sets : List (Nat × (α → Value)))
    (hassign : ∀ (l : Nat) (x : α) (W : World) (K : Act → World → Prop), K { tmps := sets.foldl (fun t p => t.setIfInBounds p.1 (p.2 x)) a.tmps, defers := [] } W →
      assign.wpIn (Fence.wide.inRound l) 0 P (Exit.then K (fun _ _ _ => False)) { tmps := (ps.zip (encs x)).foldl (fun t (p, v) => t.setIfInBounds p v) a.tmps, defers := [] } W)
    (hbody : ∀ (l : Nat) (pre : List α) (x : α) (W W0 : World), w.heap.size ≤ l → (∃ r, W.heap[l]? = some (.loop r)) → Only (fun k => fp k ∨ It k) w W → ok (pre ++ [x]) → R pre x W0 → Only (fun k => k = l) W0 W →
      I pre W → w.heap.size ≤ W.heap.size → body.wpIn (Fence.wide.inRound l) 0 P (roundEnd1 fp W I Ix (pre ++ [x])) { tmps := sets.foldl (fun t p => t.setIfInBounds p.1 (p.2 x)) a.tmps, defers := [] } W)
    (hdone : ∀ (D : Nat) (xs : List α) (W : World), w.heap.size ≤ D → S xs → I xs W → Only (fun k => fp k ∨ It k) w W → W.heap[D]? = some (.deferred (some [])) →
      Q .normal { a with defers := { target := .collected D, args := #[] } :: a.defers } W)
    (hstop : ∀ (D : Nat) (c : Code) (xs : List α) (W : World), w.heap.size ≤ D → ok xs → Ix c xs W → Only (fun k => fp k ∨ It k) w W → W.heap[D]? = some (.deferred (some [])) →
      c.wpIn Fence.wide 0 P Q { a with defers := { target := .collected D, args := #[] } :: a.defers } W) :
    (Code.rangeFunc g ps assign body).wpIn Fence.wide 0 P Q a w := by
  have hst : ∀ {fq : Nat → Prop} {A B : World}, (∀ k, fq k ↔ fp k) → Stays fq A B → Stays fp A B := fun h k => k.mono (fun i hi => (h i).2 hi)
  refine wpIn_range (P := P) hg eg hit hps fp hfp hItb (fun pre fq W => (∀ k, fq k ↔ fp k) ∧ w.heap.size ≤ W.heap.size ∧ I pre W) (fun c pre fq W => (∀ k, fq k ↔ fp k) ∧ w.heap.size ≤ W.heap.size ∧ Ix c pre W)
    (fun pre fq A B h k => ⟨h.1, Nat.le_trans h.2.1 k.size, hI _ _ _ h.2.2 (hst h.1 k)⟩) (fun c pre fq A B h k => ⟨h.1, Nat.le_trans h.2.1 k.size, hIx _ _ _ _ h.2.2 (hst h.1 k)⟩)
    (fun pre fq A h => hBd _ _ h.2.2) (fun _ x a' _ => a' = { tmps := sets.foldl (fun t p => t.setIfInBounds p.1 (p.2 x)) a.tmps, defers := [] }) (fun _ _ _ _ _ _ _ _ h => h) hPre ⟨fun _ => Iff.rfl, Nat.le_refl _, h0⟩
    (fun l pre fq x W K _ _ _ _ _ hK => hassign l x W K (hK _ _ (Only.refl _ _) rfl)) ?_
    (fun D xs fq W hD hS h ho _ _ _ hk => hdone D xs W hD hS h.2.2 ho hk) (fun D c xs fq W hD hS h ho _ _ _ hk => hstop D c xs W hD hS h.2.2 ho hk)
  rintro l pre fq x a' W W0 hl hr ho hok hR ho0 hnl hb ⟨hfq, hsz, hi⟩ rfl hsz'
  have conv : ∀ {W' : World}, Only fp W W' → Fwd fq fq W W' := fun h => ⟨h.mono (fun k _ hk => (hfq k).2 hk), fun k hk => ⟨.inl hk, Nat.lt_of_lt_of_le (hb k hk) h.size⟩⟩
  refine wpIn_mono (hbody l pre x W W0 hl hr ho hok hR ho0 hi hsz') ?_
  rintro e a3 W3 hp
  cases e with
  | normal => exact ⟨fq, conv hp.1, hfq, Nat.le_trans hsz' hp.1.size, hp.2⟩
  | ret => exact ⟨fq, conv hp.1, hfq, Nat.le_trans hsz' hp.1.size, hp.2⟩
  | exit id => exact ⟨fq, conv hp.1, hfq, Nat.le_trans hsz' hp.1.size, hp.2⟩
  | goto t => exact ⟨fq, conv hp.1, hfq, Nat.le_trans hsz' hp.1.size, hp.2⟩
  | panic ch => exact hp.elim
  | outgrown => exact hp.elim

/-- The world under a name. -/
theorem wpIn_world {F : Fence} {n : Nat} {c : Code} (h : ∀ W, W = w → c.wpIn F n P Q a W) : c.wpIn F n P Q a w := h w rfl
theorem wp_world {c : Code} (h : ∀ W, W = w → c.wp P Q a W) : c.wp P Q a w := h w rfl

/-- A function that holds one range over a function leaves. -/
theorem leaveM1 {fn : Func} {tmps : Array Value} {R : Ending → World → Prop} {D : Nat} {W : World} {v : Value} (hk : W.heap[D]? = some (.deferred (some []))) 
    (hr : (results fn tmps).run P (W.putObj D (.deferred none)) = .ok v (W.putObj D (.deferred none))) (hR : R (.returned v) (W.putObj D (.deferred none))) :
    LeavesInM Fence.wide 0 P fn tmps R [{ target := .collected D, args := #[] }] .returning W :=
  ⟨by simp, .inl ⟨_, _, rfl, run_takeDeferred hk, ⟨v, hr, hR⟩⟩⟩
theorem ext_put {A B : World} {D : Nat} {o : Obj} (h : Below A.heap.size A B) (hD : A.heap.size ≤ D) : Below A.heap.size A (B.putObj D o) :=
  h.trans ⟨rfl, rfl, rfl, by simp, fun k hk => World.putObj_heap_other (by omega)⟩
@[go_sem] theorem cell_put (W : World) (D n i : Nat) (c : Option (List Deferred)) (h : n ≠ D) : (W.putObj D (.deferred c)).cell? ⟨n, i, none⟩ = W.cell? ⟨n, i, none⟩ :=
  World.cell?_of_block (w := W) (World.putObj_heap_other h)
end Go.Proofs.Ytmflopeedofkhaa

namespace Go.Proofs.Ytmflopeedofkhaa
set_option linter.unusedSimpArgs false
set_option linter.unusedVariables false
set_option maxRecDepth 100000
open Go.RowKit

/-- A part's step forward; the blocks tp are handed over to it. -/
structure FwdT (fp tp fp' : Nat → Prop) (W W' : World) : Prop where
  only : Only fp W W'
  own : ∀ k, fp' k → (fp k ∨ tp k ∨ W.heap.size ≤ k) ∧ k < W'.heap.size
theorem FwdT.const {fp tp : Nat → Prop} {W W' : World} (h : Only fp W W') (hf : ∀ k, fp k → k < W.heap.size) : FwdT fp tp fp W W' :=
  ⟨h, fun k hk => ⟨.inl hk, Nat.lt_of_lt_of_le (hf k hk) h.size⟩⟩
theorem Fwd.toT {fp tp fp' : Nat → Prop} {W W' : World} (h : Fwd fp fp' W W') : FwdT fp tp fp' W W' :=
  ⟨h.only, fun k hk => ⟨(h.own k hk).1.elim .inl (fun h => .inr (.inr h)), (h.own k hk).2⟩⟩

/-- how an iterator ends -/
def IterEnd {α : Type} (fp It : Nat → Prop) (ok S : List α → Prop) (J Jx : List α → (Nat → Prop) → World → Prop) (W : World) (e : Ending) (W' : World) : Prop :=
  (∃ v, e = .returned v) ∧ ∃ xs fp', Only (fun k => fp k ∨ It k) W W' ∧ (∀ k, fp' k → (fp k ∨ W.heap.size ≤ k) ∧ k < W'.heap.size) ∧ ((S xs ∧ J xs fp' W') ∨ (ok xs ∧ Jx xs fp' W'))
theorem IterEnd.mk {α : Type} {fp It : Nat → Prop} {ok S : List α → Prop} {J Jx : List α → (Nat → Prop) → World → Prop} {W : World} {v : Value} {W' : World} (xs : List α) (fp' : Nat → Prop) (h1 : Only (fun k => fp k ∨ It k) W W')
    (h2 : ∀ k, fp' k → (fp k ∨ W.heap.size ≤ k) ∧ k < W'.heap.size) (h3 : (S xs ∧ J xs fp' W') ∨ (ok xs ∧ Jx xs fp' W')) : IterEnd fp It ok S J Jx W (.returned v) W' := ⟨⟨v, rfl⟩, xs, fp', h1, h2, h3⟩

/-- **THE ITERATOR's CONTRACT, elements with blocks of their own.** 'R pre x tp W': what holds of an element as it comes; its blocks tp (laid since the iterator began) are the caller's from there on. -/
def IterT {α : Type} (P : Program) (g : Nat) (lb : Array Value) (encs : α → Array Value) (ok S Bd : List α → Prop) (R : List α → α → (Nat → Prop) → World → Prop) (Pre : World → Prop) (Rs It : Nat → Prop) : Prop :=
  ∀ (l : Nat) (J Jx : List α → (Nat → Prop) → World → Prop) (fp : Nat → Prop) (W : World), Pre W → (∀ k, fp k → k < W.heap.size ∧ ¬ Rs k) →
    (∀ pre fp A B, J pre fp A → Stays fp A B → J pre fp B) → (∀ pre fp A B, Jx pre fp A → Stays fp A B → Jx pre fp B) →
    (∀ pre fp A, J pre fp A → Bd pre) →
    (∀ pre fq tp x W1, J pre fq W1 → (∀ k, fq k → k < W1.heap.size) → (∀ k, tp k → W.heap.size ≤ k ∧ k < W1.heap.size ∧ ¬ fq k) → Only (fun k => fp k ∨ It k) W W1 → ok (pre ++ [x]) → R pre x tp W1 →
      YieldAt Fence.wide 0 P l (encs x) W1 fun e W' =>
        ∃ fp', FwdT fq tp fp' W1 W' ∧ ((e = .returned (.bool true) ∧ J (pre ++ [x]) fp' W') ∨ (e = .returned (.bool false) ∧ Jx (pre ++ [x]) fp' W'))) →
    J [] fp W →
    CallsIn Fence.wide 0 P g (#[.func (.yield l) #[] #[]] ++ lb) W (IterEnd fp It ok S J Jx W)

theorem Fwd.wide {fp gp fp' : Nat → Prop} {W W' : World} (h : Fwd (fun k => fp k ∨ gp k) fp' W W') (ho : ∀ k, fp' k → fp k ∨ W.heap.size ≤ k) : Only (fun k => fp k ∨ gp k) W W' ∧ (∀ k, fp' k → (fp k ∨ W.heap.size ≤ k) ∧ k < W'.heap.size) :=
  ⟨h.only, fun k hk => ⟨ho k hk, (h.own k hk).2⟩⟩
/-- an iterator that hands nothing over -/
theorem IterR.toT {α : Type} {P : Program} {g : Nat} {lb : Array Value} {encs : α → Array Value} {ok S Bd : List α → Prop} {R : List α → α → World → Prop} {Pre : World → Prop} {Rs It : Nat → Prop} (h : IterR P g lb encs ok S Bd R Pre Rs It) :
    IterT P g lb encs ok S Bd (fun pre x tp W => (∀ k, ¬ tp k) ∧ R pre x W) Pre Rs It := by
  intro l J Jx fp W hp hf hJ hJx hB hY h0
  refine (h l J Jx fp W hp hf hJ hJx hB (fun pre fq x W1 hj hq ho hok hR => ?_) h0).mono ?_
  · obtain ⟨fn, tmps, assign, body, hy, hr⟩ := hY pre fq (fun _ => False) x W1 hj hq (fun k hk => hk.elim) ho hok ⟨fun _ h => h, hR⟩
    refine ⟨fn, tmps, assign, body, hy, hr.mono ?_⟩
    rintro e W' ⟨fp', hf, h⟩
    exact ⟨fp', ⟨hf.only, fun k hk => ⟨(hf.own k hk).1.elim .inl (fun h => h.elim False.elim .inr), (hf.own k hk).2⟩⟩, h⟩
  · rintro e W' ⟨⟨v, rfl⟩, xs, fp', h1, h2, h3⟩
    exact IterEnd.mk xs fp' h1.only (fun k hk => ⟨h2 k hk, (h1.own k hk).2⟩) h3

/-- How a round may be left. -/
def roundEndT {α : Type} (fp tp : Nat → Prop) (W : World) (I : List α → (Nat → Prop) → World → Prop) (Ix : Code → List α → (Nat → Prop) → World → Prop) (xs : List α) : Exit → Act → World → Prop
  | .normal, _, W' => ∃ fp', FwdT fp tp fp' W W' ∧ I xs fp' W'
  | .ret, _, W' => ∃ fp', FwdT fp tp fp' W W' ∧ Ix .ret xs fp' W'
  | .exit id, _, W' => ∃ fp', FwdT fp tp fp' W W' ∧ Ix (.exit id) xs fp' W'
  | .goto t, _, W' => ∃ fp', FwdT fp tp fp' W W' ∧ Ix (.goto t) xs fp' W'
  | .panic _, _, _ => False
  | .outgrown, _, _ => False

variable {P : Program} {α : Type} {g : Operand} {ps : Array Tmp} {assign body : Code} {Q : Exit → Act → World → Prop} {a : Act} {w : World}

/-- ONE ROUND, its record among the caller's blocks. -/
theorem round_lawT {encs : α → Array Value} (I : List α → (Nat → Prop) → World → Prop) (Ix : Code → List α → (Nat → Prop) → World → Prop)
    (hI : ∀ pre fp A B, I pre fp A → Stays fp A B → I pre fp B) (hIx : ∀ c pre fp A B, Ix c pre fp A → Stays fp A B → Ix c pre fp B)
    (Ax : List α → α → Act → World → Prop) (hAx : ∀ pre x a' A l r r', A.heap[l]? = some (.loop r) → Ax pre x a' A → Ax pre x a' (A.putObj l (.loop r')))
    (l : Nat) (fn : FuncId) (dn : Nat) (hps : ∀ x, (encs x).size = ps.size)
    (pre : List α) (fp tp : Nat → Prop) (x : α) (W : World) (hi : I pre fp W) (hfp : ∀ k, fp k → k < W.heap.size) (hnl : ¬ fp l) (hnt : ¬ tp l)
    (hl : W.heap[l]? = some (.loop { state := .ready, pending := none, fn, tmps := a.tmps, params := ps, assign, body, defers := dn }))
    (hassign : ∀ (K : Act → World → Prop), (∀ a' W', Only (fun _ => False) W W' → Ax pre x a' W' → K a' W') →
      assign.wpIn (Fence.wide.inRound l) 0 P (Exit.then K (fun _ _ _ => False)) { tmps := (ps.zip (encs x)).foldl (fun t (p, v) => t.setIfInBounds p v) a.tmps, defers := [] } W)
    (hbody : ∀ (a' : Act) (W' : World), W.heap.size ≤ W'.heap.size → (∃ r, W'.heap[l]? = some (.loop r)) → I pre fp W' → Ax pre x a' W' → Only (fun k => k = l) W W' →
      body.wpIn (Fence.wide.inRound l) 0 P (roundEndT fp tp W' I Ix (pre ++ [x])) a' W') :
    YieldAt Fence.wide 0 P l (encs x) W fun e W' =>
      ∃ fp', FwdT (fun k => fp k ∨ k = l) tp (fun k => fp' k ∨ k = l) W W' ∧ ¬ fp' l ∧
      ((e = .returned (.bool true) ∧ I (pre ++ [x]) fp' W' ∧ W'.heap[l]? = some (.loop { state := .ready, pending := none, fn, tmps := a.tmps, params := ps, assign, body, defers := dn })) ∨
       (e = .returned (.bool false) ∧ ∃ c, Ix c (pre ++ [x]) fp' W' ∧ W'.heap[l]? = some (.loop { state := .done, pending := some c, fn, tmps := a.tmps, params := ps, assign, body, defers := dn }))) := by
  obtain ⟨rec, hrec⟩ : ∃ rec : LoopState → Option Code → Loop, rec = fun st pe => { state := st, pending := pe, fn, tmps := a.tmps, params := ps, assign, body, defers := dn } := ⟨_, rfl⟩
  have hr1 : ∀ st pe, ({ state := st, pending := pe, fn, tmps := a.tmps, params := ps, assign, body, defers := dn } : Loop) = rec st pe := fun st pe => by rw [hrec]
  simp only [hr1] at hl ⊢
  have hlt : l < W.heap.size := (Array.getElem?_eq_some_iff.1 hl).1
  have hy := run_yield (P := P) (args := encs x) hl (by rw [hrec]; exact hps x)
  rw [hrec] at hy
  refine ⟨fn, _, assign, body, hy, roundIn_of_wpIn trivial (hassign _ ?_)⟩
  clear hy
  intro a' Wa honly hax
  have hl' : Wa.heap[l]? = some (.loop (rec .ready none)) := (honly.same l hlt (fun h => h)).trans hl
  have hlta : l < Wa.heap.size := (Array.getElem?_eq_some_iff.1 hl').1
  refine ⟨_, run_beginRound hl' (by rw [hrec]), ?_⟩
  have hl2 : (Wa.putObj l (.loop { rec .ready none with state := .busy })).heap[l]? = some (.loop { rec .ready none with state := .busy }) := World.putObj_heap_same hlta
  have ho2 : Only (fun k => k = l) W (Wa.putObj l (.loop { rec .ready none with state := .busy })) := (honly.mono (fun _ _ e => e.elim)).putObj _ (fun _ => rfl)
  have hi2 : I pre fp (Wa.putObj l (.loop { rec .ready none with state := .busy })) :=
    hI _ _ _ _ hi (ho2.stays (fun k hk => ⟨hfp k hk, fun e => hnl (e ▸ hk)⟩))
  have hsz2 : W.heap.size ≤ (Wa.putObj l (.loop { rec .ready none with state := .busy })).heap.size := ho2.size
  refine wpIn_mono (hbody a' _ hsz2 ⟨_, hl2⟩ hi2 (hAx _ _ _ _ _ _ _ hl' hax) ho2) ?_
  generalize hWb : Wa.putObj l (.loop { rec .ready none with state := .busy }) = Wb at hl2 ho2 hi2 hsz2 ⊢
  have fin : ∀ (jump : Option Code) (fp' : Nat → Prop) (W3 : World), FwdT fp tp fp' Wb W3 →
      (Instr.endRound l jump).run P W3 = .ok (.bool jump.isNone) (W3.putObj l (.loop (rec (if jump.isNone then .ready else .done) jump))) ∧
      (W3.putObj l (.loop (rec (if jump.isNone then .ready else .done) jump))).heap[l]? = some (.loop (rec (if jump.isNone then .ready else .done) jump)) ∧
      ¬ fp' l ∧ Stays fp' W3 (W3.putObj l (.loop (rec (if jump.isNone then .ready else .done) jump))) ∧
      FwdT (fun k => fp k ∨ k = l) tp (fun k => fp' k ∨ k = l) W (W3.putObj l (.loop (rec (if jump.isNone then .ready else .done) jump))) := fun jump fp' W3 hf => by
    have hltb : l < Wb.heap.size := (Array.getElem?_eq_some_iff.1 hl2).1
    have hl3 : W3.heap[l]? = some (.loop { rec .ready none with state := .busy }) := (hf.only.same l hltb hnl).trans hl2
    have hn : ¬ fp' l := fun h => (hf.own l h).1.elim hnl (fun h => h.elim hnt (fun h => by omega))
    have := run_endRound (P := P) jump hl3
    rw [hrec] at this ⊢
    refine ⟨this, World.putObj_heap_same (Array.getElem?_eq_some_iff.1 hl3).1, hn, ⟨rfl, rfl, rfl, by simp, fun k hk => World.putObj_heap_other (fun e => hn (e ▸ hk))⟩, ?_, ?_⟩
    · exact ((ho2.mono (fp' := fun k => fp k ∨ k = l) (fun _ _ e => .inr e)).trans hf.only (fun i _ h => .inl h)).putObj _ (fun _ => .inr rfl)
    · intro k hk
      have hs3 : W3.heap.size = (W3.putObj l (.loop { state := if jump.isNone then .ready else .done, pending := jump, fn, tmps := a.tmps, params := ps, assign, body, defers := dn })).heap.size := by simp
      rw [← hs3]
      rcases hk with hk | rfl
      · obtain ⟨h1, h2⟩ := hf.own k hk
        exact ⟨h1.elim (fun h => .inl (.inl h)) (fun h => .inr (h.imp id (fun h => by omega))), h2⟩
      · exact ⟨.inl (.inr rfl), (Array.getElem?_eq_some_iff.1 hl3).1⟩
  rintro e a3 W3 hp
  cases e with
  | normal =>
    obtain ⟨fp', hf, hi3⟩ := hp
    obtain ⟨hr, hl4, hn, hst, hfw⟩ := fin none fp' W3 hf
    exact ⟨_, _, hr, fp', hfw, hn, .inl ⟨rfl, hI _ _ _ _ hi3 hst, hl4⟩⟩
  | ret =>
    obtain ⟨fp', hf, hi3⟩ := hp
    obtain ⟨hr, hl4, hn, hst, hfw⟩ := fin (some .ret) fp' W3 hf
    exact ⟨_, _, hr, fp', hfw, hn, .inr ⟨rfl, .ret, hIx _ _ _ _ _ hi3 hst, hl4⟩⟩
  | exit id =>
    obtain ⟨fp', hf, hi3⟩ := hp
    obtain ⟨hr, hl4, hn, hst, hfw⟩ := fin (some (.exit id)) fp' W3 hf
    exact ⟨_, _, hr, fp', hfw, hn, .inr ⟨rfl, .exit id, hIx _ _ _ _ _ hi3 hst, hl4⟩⟩
  | goto t =>
    obtain ⟨fp', hf, hi3⟩ := hp
    obtain ⟨hr, hl4, hn, hst, hfw⟩ := fin (some (.goto t)) fp' W3 hf
    exact ⟨_, _, hr, fp', hfw, hn, .inr ⟨rfl, .goto t, hIx _ _ _ _ _ hi3 hst, hl4⟩⟩
  | panic ch => exact hp.elim
  | outgrown => exact hp.elim

/-- **THE STATEMENT, outside every round.** -/
theorem wpIn_rangeT {gf : Nat} {lb : Array Value} (hg : a.eval g = .func (.func gf) #[] lb) (eg : ∀ args w, (callFunc gf args).run P w = .ok (.enter gf args) w)
    {encs : α → Array Value} {ok S Bd : List α → Prop} {R : List α → α → (Nat → Prop) → World → Prop} {Pre : World → Prop} {Rs It : Nat → Prop} (hit : IterT P gf lb encs ok S Bd R Pre Rs It)
    (hps : ∀ x, (encs x).size = ps.size)
    (fp0 : Nat → Prop) (hfp : ∀ k, fp0 k → k < w.heap.size ∧ ¬ Rs k) (hItb : ∀ k, Rs k → k < w.heap.size) (hIt : ∀ k, It k → k < w.heap.size)
    (I : List α → (Nat → Prop) → World → Prop) (Ix : Code → List α → (Nat → Prop) → World → Prop)
    (hI : ∀ pre fp A B, I pre fp A → Stays fp A B → I pre fp B) (hIx : ∀ c pre fp A B, Ix c pre fp A → Stays fp A B → Ix c pre fp B)
    (hBd : ∀ pre fp A, I pre fp A → Bd pre)
    (Ax : List α → α → Act → World → Prop) (hAx : ∀ pre x a' A l r r', A.heap[l]? = some (.loop r) → Ax pre x a' A → Ax pre x a' (A.putObj l (.loop r')))
    (hPre : ∀ W, Below w.heap.size w W → Pre W) (h0 : I [] fp0 w)
    (hassign : ∀ (l : Nat) (pre : List α) (fp tp : Nat → Prop) (x : α) (W : World) (K : Act → World → Prop), w.heap.size ≤ W.heap.size → Only (fun k => fp0 k ∨ It k) w W → ok (pre ++ [x]) → R pre x tp W → I pre fp W →
      (∀ a' W', Only (fun _ => False) W W' → Ax pre x a' W' → K a' W') →
      assign.wpIn (Fence.wide.inRound l) 0 P (Exit.then K (fun _ _ _ => False)) { tmps := (ps.zip (encs x)).foldl (fun t (p, v) => t.setIfInBounds p v) a.tmps, defers := [] } W)
    (hbody : ∀ (l : Nat) (pre : List α) (fp tp : Nat → Prop) (x : α) (a' : Act) (W W0 : World), w.heap.size ≤ l → (∃ r, W.heap[l]? = some (.loop r)) → Only (fun k => fp0 k ∨ It k) w W → ok (pre ++ [x]) → R pre x tp W0 → Only (fun k => k = l) W0 W → ¬ fp l →
      (∀ k, fp k → k < W.heap.size) → (∀ k, tp k → w.heap.size ≤ k ∧ k < W0.heap.size ∧ ¬ fp k ∧ k ≠ l) → I pre fp W → Ax pre x a' W → w.heap.size ≤ W.heap.size →
      body.wpIn (Fence.wide.inRound l) 0 P (roundEndT fp tp W I Ix (pre ++ [x])) a' W)
    (hdone : ∀ (D : Nat) (xs : List α) (fp' : Nat → Prop) (W : World), w.heap.size ≤ D → S xs → I xs fp' W → Only (fun k => fp0 k ∨ It k) w W → (∀ k, fp' k → fp0 k ∨ w.heap.size ≤ k) → (∀ k, fp' k → k < W.heap.size) → ¬ fp' D → W.heap[D]? = some (.deferred (some [])) →
      Q .normal { a with defers := { target := .collected D, args := #[] } :: a.defers } W)
    (hstop : ∀ (D : Nat) (c : Code) (xs : List α) (fp' : Nat → Prop) (W : World), w.heap.size ≤ D → ok xs → Ix c xs fp' W → Only (fun k => fp0 k ∨ It k) w W → (∀ k, fp' k → fp0 k ∨ w.heap.size ≤ k) → (∀ k, fp' k → k < W.heap.size) → ¬ fp' D → W.heap[D]? = some (.deferred (some [])) →
      c.wpIn Fence.wide 0 P Q { a with defers := { target := .collected D, args := #[] } :: a.defers } W) :
    (Code.rangeFunc g ps assign body).wpIn Fence.wide 0 P Q a w := by
  refine wpIn_rangeFunc ?_
  intro fn _
  obtain ⟨rec, hrec⟩ : ∃ rec : LoopState → Option Code → Loop, rec = fun st pe => { state := st, pending := pe, fn, tmps := a.tmps, params := ps, assign, body, defers := w.heap.size } := ⟨_, rfl⟩
  obtain ⟨W1, hW1⟩ : ∃ W1, (w.alloc (.deferred (some []))).alloc (.loop (rec .ready none)) = W1 := ⟨_, rfl⟩
  have hL1 : W1.heap[w.heap.size + 1]? = some (.loop (rec .ready none)) := by
    rw [← hW1]; have := World.alloc_heap_new (w.alloc (.deferred (some []))) (.loop (rec .ready none)); rwa [World.size_alloc] at this
  have hK1 : W1.heap[w.heap.size]? = some (.deferred (some [])) := by
    rw [← hW1]; exact (Below.heap_alloc _ _ _ (by simp)).trans (World.alloc_heap_new w _)
  have hsz1 : W1.heap.size = w.heap.size + 2 := by rw [← hW1]; simp
  have hb1 : Below w.heap.size w W1 := by rw [← hW1]; exact (ext_alloc w _).trans ((Below.refl _ _).alloc (by simp) _)
  have hI1 : I [] fp0 W1 := hI _ _ _ _ h0 ⟨hb1.os, hb1.tape, hb1.output, hb1.size, fun k hk => hb1.block k (hfp k hk).1⟩
  refine ⟨w.heap.size + 1, [{ target := .collected w.heap.size, args := #[] }], W1, { target := .fn (.func gf) lb, args := #[.func (.yield (w.heap.size + 1)) #[] #[]] }, W1, gf,
    #[.func (.yield (w.heap.size + 1)) #[] #[]] ++ lb, W1, ?_, ?_, fun _ _ => trivial, ?_, fun h => by simp [Fence.wide] at h, ?_⟩
  · rw [← hW1, hrec]; exact run_enterLoop_outer _ _ _ _ _
  · simp only [resolve, hg]
    simp [go_sem]
  · simp [invoke, go_sem, eg]
  · have spl : ∀ {fp : Nat → Prop} {A B : World}, Stays (fun k => fp k ∨ k = w.heap.size + 1 ∨ k = w.heap.size) A B → Stays fp A B ∧ B.heap[w.heap.size + 1]? = A.heap[w.heap.size + 1]? ∧ B.heap[w.heap.size]? = A.heap[w.heap.size]? :=
      fun h => ⟨h.mono fun k hk => .inl hk, h.same _ (.inr (.inl rfl)), h.same _ (.inr (.inr rfl))⟩
    have hitf : ∀ k, (fp0 k ∨ k = w.heap.size + 1 ∨ k = w.heap.size) → k < W1.heap.size ∧ ¬ Rs k := by
      rintro k (hk | rfl | rfl)
      · exact ⟨by have := (hfp k hk).1; omega, (hfp k hk).2⟩
      · exact ⟨by omega, fun h => by have := hItb _ h; omega⟩
      · exact ⟨by omega, fun h => by have := hItb _ h; omega⟩
    refine (hit (w.heap.size + 1)
      (fun pre fpp W => ∃ fp, (∀ k, fpp k ↔ (fp k ∨ k = w.heap.size + 1 ∨ k = w.heap.size)) ∧ ¬ fp (w.heap.size + 1) ∧ ¬ fp w.heap.size ∧ I pre fp W ∧ W.heap[w.heap.size + 1]? = some (.loop (rec .ready none)) ∧ W.heap[w.heap.size]? = some (.deferred (some [])) ∧ w.heap.size ≤ W.heap.size)
      (fun pre fpp W => ∃ fp, (∀ k, fpp k ↔ (fp k ∨ k = w.heap.size + 1 ∨ k = w.heap.size)) ∧ ¬ fp (w.heap.size + 1) ∧ ¬ fp w.heap.size ∧ (∃ c, Ix c pre fp W ∧ W.heap[w.heap.size + 1]? = some (.loop (rec .done (some c)))) ∧ W.heap[w.heap.size]? = some (.deferred (some [])))
      (fun k => fp0 k ∨ k = w.heap.size + 1 ∨ k = w.heap.size) W1 (hPre W1 hb1) hitf ?_ ?_ ?_ ?_
      ⟨fp0, fun _ => Iff.rfl, fun h => by have := (hfp _ h).1; omega, fun h => by have := (hfp _ h).1; omega, hI1, hL1, hK1, by omega⟩).mono ?_
    · rintro pre fpp A B ⟨fp, hf, hn1, hn2, hi, hl, hk, hs⟩ hst
      obtain ⟨s1, s2, s3⟩ := spl (fp := fp) (hst.mono fun k hk => (hf k).2 hk)
      exact ⟨fp, hf, hn1, hn2, hI _ _ _ _ hi s1, s2.trans hl, s3.trans hk, Nat.le_trans hs hst.size⟩
    · rintro pre fpp A B ⟨fp, hf, hn1, hn2, ⟨c, hi, hl⟩, hk⟩ hst
      obtain ⟨s1, s2, s3⟩ := spl (fp := fp) (hst.mono fun k hk => (hf k).2 hk)
      exact ⟨fp, hf, hn1, hn2, ⟨c, hIx _ _ _ _ _ hi s1, s2.trans hl⟩, s3.trans hk⟩
    · rintro pre fpp A ⟨fp, _, _, _, hi, _⟩
      exact hBd _ _ _ hi
    · rintro pre fpp tp x W ⟨fp, hf, hn1, hn2, hi, hl, hk, hs⟩ hlt htp honl hok hR
      have hov : Only (fun k => fp0 k ∨ It k) w W := by
        refine (Only.of_below (fp := fun k => fp0 k ∨ It k) hb1).trans honl ?_
        rintro i hi ((h | h | h) | h)
        · exact .inl h
        · omega
        · omega
        · exact .inr h
      rw [hrec] at hl
      have hfp' : ∀ k, fp k → k < W.heap.size := fun k h => hlt k ((hf k).2 (.inl h))
      have ht1 : ¬ tp (w.heap.size + 1) := fun h => (htp _ h).2.2 ((hf _).2 (.inr (.inl rfl)))
      have ht2 : ¬ tp w.heap.size := fun h => (htp _ h).2.2 ((hf _).2 (.inr (.inr rfl)))
      obtain ⟨fn', tmps', assign', body', hy, hro⟩ := round_lawT (P := P) I Ix hI hIx Ax hAx (w.heap.size + 1) fn w.heap.size hps pre fp tp x W hi hfp' hn1 ht1 hl
        (fun K hK => hassign _ pre fp tp x W K hs hov hok hR hi hK)
        (fun a' W' hsz hr hi' hax ho => hbody _ pre fp tp x a' W' W (by omega) hr (hov.trans ho (fun i hi e => by omega)) hok hR ho hn1 (fun k hk => by have := hfp' k hk; omega)
          (fun k hk => ⟨by have := (htp k hk).1; omega, (htp k hk).2.1, fun h => (htp k hk).2.2 ((hf k).2 (.inl h)), fun e => ht1 (e ▸ hk)⟩) hi' hax (by omega))
      refine ⟨fn', tmps', assign', body', hy, hro.mono ?_⟩
      rintro e W' ⟨fp', hfw, hn', hor⟩
      have hkd : W'.heap[w.heap.size]? = some (.deferred (some [])) :=
        (hfw.only.same _ (Array.getElem?_eq_some_iff.1 hk).1 (fun h => h.elim hn2 (fun h => by omega))).trans hk
      have hnd : ¬ fp' w.heap.size := fun h => (hfw.own _ (.inl h)).1.elim (fun h => h.elim hn2 (fun h => by omega)) (fun h => h.elim ht2 (fun h => by have := (Array.getElem?_eq_some_iff.1 hk).1; omega))
      refine ⟨fun k => fp' k ∨ k = w.heap.size + 1 ∨ k = w.heap.size, ⟨hfw.only.mono ?_, ?_⟩, ?_⟩
      · rintro k _ (h | h)
        · exact (hf k).2 (.inl h)
        · exact (hf k).2 (.inr (.inl h))
      · rintro k (h | h | h)
        · obtain ⟨h1, h2⟩ := hfw.own k (.inl h)
          exact ⟨h1.elim (fun h => .inl ((hf k).2 (h.elim .inl (fun h => .inr (.inl h))))) .inr, h2⟩
        · exact ⟨.inl ((hf k).2 (.inr (.inl h))), by subst h; exact (hfw.own _ (.inr rfl)).2⟩
        · exact ⟨.inl ((hf k).2 (.inr (.inr h))), by subst h; exact (Array.getElem?_eq_some_iff.1 hkd).1⟩
      · rcases hor with ⟨rfl, hi', hl'⟩ | ⟨rfl, c, hi', hl'⟩
        · exact .inl ⟨rfl, fp', fun _ => Iff.rfl, hn', hnd, hi', by rw [hrec]; exact hl', hkd, Nat.le_trans hs hfw.only.size⟩
        · exact .inr ⟨rfl, fp', fun _ => Iff.rfl, hn', hnd, ⟨c, hi', by rw [hrec]; exact hl'⟩, hkd⟩
    · have hfin : ∀ (W2 : World) (r' : Loop), Only (fun k => (fp0 k ∨ k = w.heap.size + 1 ∨ k = w.heap.size) ∨ It k) W1 W2 → W2.heap[w.heap.size]? = some (.deferred (some [])) →
          Only (fun k => fp0 k ∨ It k) w (W2.putObj (w.heap.size + 1) (.loop r')) ∧ (W2.putObj (w.heap.size + 1) (.loop r')).heap[w.heap.size]? = some (.deferred (some [])) := fun W2 r' hf hk => by
        refine ⟨?_, (World.putObj_heap_other (by omega)).trans hk⟩
        refine ((Only.of_below (fp := fun k => fp0 k ∨ It k) hb1).trans (fp' := fun k => (fp0 k ∨ k = w.heap.size + 1 ∨ k = w.heap.size) ∨ It k) hf ?_).putObj _ (fun h => by omega)
        rintro i hi ((h | h | h) | h)
        · exact .inl h
        · omega
        · omega
        · exact .inr h
      rintro e W2 ⟨⟨v, rfl⟩, xs, fpp, hfw, hfo, (⟨hS, fp', hf, hn1, hn2, hi, hl, hk, _⟩ | ⟨hS, fp', hf, hn1, hn2, ⟨c, hi, hl⟩, hk⟩)⟩
      · obtain ⟨ho, hk2⟩ := hfin W2 { rec .ready none with state := .exhausted } hfw hk
        have hrn := run_endLoop (P := P) hl (by rw [hrec]; simp)
        refine ⟨none, _, by rw [hrec] at hrn; exact hrn, ?_⟩
        refine hdone _ xs fp' _ (Nat.le_refl _) hS (hI _ _ _ _ hi ⟨rfl, rfl, rfl, by simp, fun k hk => World.putObj_heap_other (fun e => hn1 (e ▸ hk))⟩) (by rw [hrec] at ho; exact ho) ?_ ?_ hn2 (by rw [hrec] at hk2; exact hk2)
        · intro k hk'
          rcases (hfo k ((hf k).2 (.inl hk'))).1 with (h | h | h) | h
          · exact .inl h
          · exact absurd (h ▸ hk') hn1
          · exact absurd (h ▸ hk') hn2
          · exact .inr (by omega)
        · intro k hk'; simpa using (hfo k ((hf k).2 (.inl hk'))).2
      · obtain ⟨ho, hk2⟩ := hfin W2 { rec .done (some c) with state := .exhausted } hfw hk
        have hrn := run_endLoop (P := P) hl (by rw [hrec]; simp)
        refine ⟨some c, _, by rw [hrec] at hrn; exact hrn, ?_⟩
        refine hstop _ c xs fp' _ (Nat.le_refl _) hS (hIx _ _ _ _ _ hi ⟨rfl, rfl, rfl, by simp, fun k hk => World.putObj_heap_other (fun e => hn1 (e ▸ hk))⟩) (by rw [hrec] at ho; exact ho) ?_ ?_ hn2 (by rw [hrec] at hk2; exact hk2)
        · intro k hk'
          rcases (hfo k ((hf k).2 (.inl hk'))).1 with (h | h | h) | h
          · exact .inl h
          · exact absurd (h ▸ hk') hn1
          · exact absurd (h ▸ hk') hn2
          · exact .inr (by omega)
        · intro k hk'; simpa using (hfo k ((hf k).2 (.inl hk'))).2
/-- **THE STATEMENT, the loop's variables in slots; the caller's blocks move.** -/
theorem wpIn_rangeTS {gf : Nat} {lb : Array Value} (hg : a.eval g = .func (.func gf) #[] lb) (eg : ∀ args w, (callFunc gf args).run P w = .ok (.enter gf args) w)
    {encs : α → Array Value} {ok S Bd : List α → Prop} {R : List α → α → (Nat → Prop) → World → Prop} {Pre : World → Prop} {Rs It : Nat → Prop} (hit : IterT P gf lb encs ok S Bd R Pre Rs It)
    (hps : ∀ x, (encs x).size = ps.size)
    (fp0 : Nat → Prop) (hfp : ∀ k, fp0 k → k < w.heap.size ∧ ¬ Rs k) (hItb : ∀ k, Rs k → k < w.heap.size) (hIt : ∀ k, It k → k < w.heap.size)
    (I : List α → (Nat → Prop) → World → Prop) (Ix : Code → List α → (Nat → Prop) → World → Prop)
    (hI : ∀ pre fp A B, I pre fp A → Stays fp A B → I pre fp B) (hIx : ∀ c pre fp A B, Ix c pre fp A → Stays fp A B → Ix c pre fp B)
    (hBd : ∀ pre fp A, I pre fp A → Bd pre)
    (hPre : ∀ W, Below w.heap.size w W → Pre W) (h0 : I [] fp0 w) (sets : List (Nat × (α → Value)))
    (hassign : ∀ (l : Nat) (x : α) (W : World) (K : Act → World → Prop), K { tmps := sets.foldl (fun t p => t.setIfInBounds p.1 (p.2 x)) a.tmps, defers := [] } W →
      assign.wpIn (Fence.wide.inRound l) 0 P (Exit.then K (fun _ _ _ => False)) { tmps := (ps.zip (encs x)).foldl (fun t (p, v) => t.setIfInBounds p v) a.tmps, defers := [] } W)
    (hbody : ∀ (l : Nat) (pre : List α) (fp tp : Nat → Prop) (x : α) (W W0 : World), w.heap.size ≤ l → (∃ r, W.heap[l]? = some (.loop r)) → Only (fun k => fp0 k ∨ It k) w W → ok (pre ++ [x]) → R pre x tp W0 → Only (fun k => k = l) W0 W → ¬ fp l →
      (∀ k, fp k → k < W.heap.size) → (∀ k, tp k → w.heap.size ≤ k ∧ k < W0.heap.size ∧ ¬ fp k ∧ k ≠ l) → I pre fp W → w.heap.size ≤ W.heap.size →
      body.wpIn (Fence.wide.inRound l) 0 P (roundEndT fp tp W I Ix (pre ++ [x])) { tmps := sets.foldl (fun t p => t.setIfInBounds p.1 (p.2 x)) a.tmps, defers := [] } W)
    (hdone : ∀ (D : Nat) (xs : List α) (fp' : Nat → Prop) (W : World), w.heap.size ≤ D → S xs → I xs fp' W → Only (fun k => fp0 k ∨ It k) w W → (∀ k, fp' k → fp0 k ∨ w.heap.size ≤ k) → (∀ k, fp' k → k < W.heap.size) → ¬ fp' D → W.heap[D]? = some (.deferred (some [])) →
      Q .normal { a with defers := { target := .collected D, args := #[] } :: a.defers } W)
    (hstop : ∀ (D : Nat) (c : Code) (xs : List α) (fp' : Nat → Prop) (W : World), w.heap.size ≤ D → ok xs → Ix c xs fp' W → Only (fun k => fp0 k ∨ It k) w W → (∀ k, fp' k → fp0 k ∨ w.heap.size ≤ k) → (∀ k, fp' k → k < W.heap.size) → ¬ fp' D → W.heap[D]? = some (.deferred (some [])) →
      c.wpIn Fence.wide 0 P Q { a with defers := { target := .collected D, args := #[] } :: a.defers } W) :
    (Code.rangeFunc g ps assign body).wpIn Fence.wide 0 P Q a w :=
  wpIn_rangeT (P := P) hg eg hit hps fp0 hfp hItb hIt I Ix hI hIx hBd (fun _ x a' _ => a' = { tmps := sets.foldl (fun t p => t.setIfInBounds p.1 (p.2 x)) a.tmps, defers := [] }) (fun _ _ _ _ _ _ _ _ h => h) hPre h0
    (fun l pre fq tp x W K _ _ _ _ _ hK => hassign l x W K (hK _ _ (Only.refl _ _) rfl))
    (fun l pre fp tp x a' W W0 h1 h2 h3 h4 h5 h6 h7 h8 h9 h10 hax h11 => by subst hax; exact hbody l pre fp tp x W W0 h1 h2 h3 h4 h5 h6 h7 h8 h9 h10 h11)
    hdone hstop
/-- **THE STATEMENT, one loop variable in a box (slot nb), the others in slots; the caller's blocks move.** -/
theorem wpIn_rangeTB {gf : Nat} {lb : Array Value} (hg : a.eval g = .func (.func gf) #[] lb) (eg : ∀ args w, (callFunc gf args).run P w = .ok (.enter gf args) w)
    {encs : α → Array Value} {ok S Bd : List α → Prop} {R : List α → α → (Nat → Prop) → World → Prop} {Pre : World → Prop} {Rs It : Nat → Prop} (hit : IterT P gf lb encs ok S Bd R Pre Rs It)
    (hps : ∀ x, (encs x).size = ps.size)
    (fp0 : Nat → Prop) (hfp : ∀ k, fp0 k → k < w.heap.size ∧ ¬ Rs k) (hItb : ∀ k, Rs k → k < w.heap.size) (hIt : ∀ k, It k → k < w.heap.size)
    (I : List α → (Nat → Prop) → World → Prop) (Ix : Code → List α → (Nat → Prop) → World → Prop)
    (hI : ∀ pre fp A B, I pre fp A → Stays fp A B → I pre fp B) (hIx : ∀ c pre fp A B, Ix c pre fp A → Stays fp A B → Ix c pre fp B)
    (hBd : ∀ pre fp A, I pre fp A → Bd pre)
    (hPre : ∀ W, Below w.heap.size w W → Pre W) (h0 : I [] fp0 w) (sets : List (Nat × (α → Value))) (nb : Nat) (bt : TypeId) (cf : α → Array Value)
    (hassign : ∀ (l : Nat) (x : α) (W : World) (K : Act → World → Prop), K { tmps := (sets.foldl (fun t p => t.setIfInBounds p.1 (p.2 x)) a.tmps).setIfInBounds nb (.pointer (some ⟨W.heap.size, 0, none⟩)), defers := [] } (W.alloc (.cells (cf x) bt)) →
      assign.wpIn (Fence.wide.inRound l) 0 P (Exit.then K (fun _ _ _ => False)) { tmps := (ps.zip (encs x)).foldl (fun t (p, v) => t.setIfInBounds p v) a.tmps, defers := [] } W)
    (hbody : ∀ (l : Nat) (pre : List α) (fp tp : Nat → Prop) (x : α) (W W0 : World) (q : Nat), W.heap[q]? = some (.cells (cf x) bt (0, 0)) → w.heap.size ≤ l → (∃ r, W.heap[l]? = some (.loop r)) → Only (fun k => fp0 k ∨ It k) w W → ok (pre ++ [x]) → R pre x tp W0 → Only (fun k => k = l) W0 W → ¬ fp l →
      (∀ k, fp k → k < W.heap.size) → (∀ k, tp k → w.heap.size ≤ k ∧ k < W0.heap.size ∧ ¬ fp k ∧ k ≠ l) → I pre fp W → w.heap.size ≤ W.heap.size →
      body.wpIn (Fence.wide.inRound l) 0 P (roundEndT fp tp W I Ix (pre ++ [x])) { tmps := (sets.foldl (fun t p => t.setIfInBounds p.1 (p.2 x)) a.tmps).setIfInBounds nb (.pointer (some ⟨q, 0, none⟩)), defers := [] } W)
    (hdone : ∀ (D : Nat) (xs : List α) (fp' : Nat → Prop) (W : World), w.heap.size ≤ D → S xs → I xs fp' W → Only (fun k => fp0 k ∨ It k) w W → (∀ k, fp' k → fp0 k ∨ w.heap.size ≤ k) → (∀ k, fp' k → k < W.heap.size) → ¬ fp' D → W.heap[D]? = some (.deferred (some [])) →
      Q .normal { a with defers := { target := .collected D, args := #[] } :: a.defers } W)
    (hstop : ∀ (D : Nat) (c : Code) (xs : List α) (fp' : Nat → Prop) (W : World), w.heap.size ≤ D → ok xs → Ix c xs fp' W → Only (fun k => fp0 k ∨ It k) w W → (∀ k, fp' k → fp0 k ∨ w.heap.size ≤ k) → (∀ k, fp' k → k < W.heap.size) → ¬ fp' D → W.heap[D]? = some (.deferred (some [])) →
      c.wpIn Fence.wide 0 P Q { a with defers := { target := .collected D, args := #[] } :: a.defers } W) :
    (Code.rangeFunc g ps assign body).wpIn Fence.wide 0 P Q a w :=
  wpIn_rangeT (P := P) hg eg hit hps fp0 hfp hItb hIt I Ix hI hIx hBd (fun _ x a' W => ∃ q, a' = { tmps := (sets.foldl (fun t p => t.setIfInBounds p.1 (p.2 x)) a.tmps).setIfInBounds nb (.pointer (some ⟨q, 0, none⟩)), defers := [] } ∧ W.heap[q]? = some (.cells (cf x) bt (0, 0)))
    (fun _ _ _ A l r r' hl ⟨q, h1, h2⟩ => ⟨q, h1, (World.putObj_heap_other (fun e => by subst e; rw [hl] at h2; cases h2)).trans h2⟩) hPre h0
    (fun l pre fq tp x W K _ _ _ _ _ hK => hassign l x W K (hK _ _ ((Only.refl _ _).alloc _) ⟨_, rfl, heap_alloc_new W _⟩))
    (fun l pre fp tp x a' W W0 h1 h2 h3 h4 h5 h6 h7 h8 h9 h10 ⟨q, hax, hq⟩ h11 => by subst hax; exact hbody l pre fp tp x W W0 q hq h1 h2 h3 h4 h5 h6 h7 h8 h9 h10 h11)
    hdone hstop
end Go.Proofs.Ytmflopeedofkhaa

namespace Go.Proofs.Ytmflopeedofkhaa
set_option linter.unusedSimpArgs false
set_option linter.unusedVariables false
set_option maxRecDepth 100000
open Go.RowKit

/-- A slice type, its element type, that type's cells and bytes and zero. -/
structure Elem (P : Program) (t e : TypeId) (size bytes : Nat) (z : Value) : Prop where
  ht : P.underlying t = some (.slice e)
  hi : ∃ i, P.info? e = some i ∧ i.zero = some z ∧ i.size = size ∧ i.bytes = bytes
  hz : z.cells.size = size
  pos : 0 < size
theorem Elem.mk' {P : Program} {t e : TypeId} {size bytes : Nat} {z : Value} (h1 : P.underlying t = some (.slice e)) (h2 : (P.info? e).map (fun i => (i.zero, i.size, i.bytes)) = some (some z, size, bytes)) (h3 : z.cells.size = size) (h4 : 0 < size) : Elem P t e size bytes z :=
  ⟨h1, info_parts h2, h3, h4⟩

/-- 'the slice value .slice ao n cap has the elements' cells xs, and they lie in the block g (none: nil), which is the caller's own' -/
def Own (w : World) (ao : Option Addr) (cap : Nat) (g : Option Nat) (e : TypeId) (size n : Nat) (xs : List Value) : Prop :=
  xs.length = n * size ∧
  ((ao = none ∧ cap = 0 ∧ n = 0 ∧ g = none) ∨
   ∃ b cur, g = some b ∧ ao = some ⟨b, 0, none⟩ ∧ w.heap[b]? = some (.cells cur e (0, 0)) ∧ n ≤ cap ∧ cap ≤ maxLen ∧ cur.size = cap * size ∧ cur.toList.take (n * size) = xs)

theorem Own.nil (w : World) (e : TypeId) (size : Nat) : Own w none 0 none e size 0 [] := ⟨by simp, .inl ⟨rfl, rfl, rfl, rfl⟩⟩

section
variable {w w' : World} {ao : Option Addr} {cap : Nat} {g : Option Nat} {e : TypeId} {size n : Nat} {xs : List Value}

theorem Own.keep (h : Own w ao cap g e size n xs) (hk : ∀ b, g = some b → w'.heap[b]? = w.heap[b]?) : Own w' ao cap g e size n xs := by
  refine ⟨h.1, ?_⟩
  rcases h.2 with h2 | ⟨b, cur, hg, ha, hh, r⟩
  · exact .inl h2
  · exact .inr ⟨b, cur, hg, ha, (hk b hg).trans hh, r⟩
theorem Own.lt (h : Own w ao cap g e size n xs) : ∀ b, g = some b → b < w.heap.size := by
  intro b hb
  rcases h.2 with ⟨_, _, _, hg⟩ | ⟨b', cur, hg, ha, hh, r⟩
  · rw [hg] at hb; cases hb
  · rw [hg] at hb; cases hb; exact (Array.getElem?_eq_some_iff.1 hh).1
theorem Own.ext (h : Own w ao cap g e size n xs) (hb : Below w.heap.size w w') : Own w' ao cap g e size n xs :=
  h.keep fun b hg => hb.block b (h.lt b hg)
theorem Own.alloc (h : Own w ao cap g e size n xs) (o : Obj) : Own (w.alloc o) ao cap g e size n xs := h.ext (ext_alloc _ _)
theorem Own.setCell (h : Own w ao cap g e size n xs) {p : Addr} (hp : ∀ b, g = some b → b ≠ p.block) (v : Value) : Own (w.setCell p v) ao cap g e size n xs :=
  h.keep fun b hg => Below.heap_setCell _ _ _ _ (hp b hg)
theorem Own.stays {fp : Nat → Prop} (h : Own w ao cap g e size n xs) (hs : Stays fp w w') (hf : ∀ b, g = some b → fp b) : Own w' ao cap g e size n xs :=
  h.keep fun b hg => hs.same b (hf b hg)
theorem Own.only {fp : Nat → Prop} (h : Own w ao cap g e size n xs) (hs : Only fp w w') (hf : ∀ b, g = some b → ¬ fp b) : Own w' ao cap g e size n xs :=
  h.keep fun b hg => hs.same b (h.lt b hg) (hf b hg)
theorem Own.len (h : Own w ao cap g e size n xs) : xs.length = n * size := h.1
theorem Own.capLe (h : Own w ao cap g e size n xs) : n ≤ cap ∧ cap ≤ maxLen := by
  rcases h.2 with ⟨_, hc, hn, _⟩ | ⟨b, cur, _, _, _, h1, h2, _⟩
  · subst hc; subst hn; exact ⟨Nat.le_refl _, by simp [maxLen]⟩
  · exact ⟨h1, h2⟩
/-- where something is owned, it has an address -/
theorem Own.pos (h : Own w ao cap g e size n xs) (hn : 0 < n) : ∃ b, g = some b ∧ ao = some ⟨b, 0, none⟩ ∧ b < w.heap.size := by
  rcases h.2 with ⟨_, _, hn0, _⟩ | ⟨b, cur, hg, ha, hh, _⟩
  · omega
  · exact ⟨b, hg, ha, (Array.getElem?_eq_some_iff.1 hh).1⟩
theorem Own.addr (h : Own w ao cap g e size n xs) : (ao = none ∧ g = none ∧ n = 0 ∧ cap = 0) ∨ ∃ b, g = some b ∧ ao = some ⟨b, 0, none⟩ ∧ b < w.heap.size := by
  rcases h.2 with ⟨h1, hc, hn0, h2⟩ | ⟨b, cur, hg, ha, hh, _⟩
  · exact .inl ⟨h1, h2, hn0, hc⟩
  · exact .inr ⟨b, hg, ha, (Array.getElem?_eq_some_iff.1 hh).1⟩
theorem Own.cell {b : Nat} (h : Own w (some ⟨b, 0, none⟩) cap g e size n xs) (j : Nat) (hj : j < n * size) : w.cell? ⟨b, j, none⟩ = xs[j]? := by
  rcases h.2 with ⟨h1, _⟩ | ⟨b', cur, hg, ha, hh, hn, hc, hs, ht⟩
  · cases h1
  · cases ha
    rw [cell_of_row w b j cur e (0, 0) hh, ← ht, List.getElem?_take, if_pos hj]
    simp
theorem Own.frozen {b : Nat} (h : Own w (some ⟨b, 0, none⟩) cap g e size n xs) (j : Nat) : w.frozen? ⟨b, j, none⟩ = false := by
  rcases h.2 with ⟨h1, _⟩ | ⟨b', cur, hg, ha, hh, _⟩
  · cases h1
  · cases ha
    simp [World.frozen?, hh]
end

/-! ### cells set one by one -/
def setsAt (cur : Array Value) : Nat → List Value → Array Value
  | _, [] => cur
  | o, v :: r => setsAt (cur.setIfInBounds o v) (o + 1) r
theorem setsAt_size : ∀ (vs : List Value) (o : Nat) (cur : Array Value), (setsAt cur o vs).size = cur.size
  | [], _, _ => rfl
  | v :: r, o, cur => by rw [setsAt, setsAt_size r]; simp
theorem setsAt_take : ∀ (vs : List Value) (o : Nat) (cur : Array Value), o + vs.length ≤ cur.size → (setsAt cur o vs).toList.take (o + vs.length) = cur.toList.take o ++ vs
  | [], o, cur, _ => by simp [setsAt]
  | v :: r, o, cur, h => by
    simp only [List.length_cons] at h ⊢
    have ih := setsAt_take r (o + 1) (cur.setIfInBounds o v) (by simp; omega)
    rw [setsAt, show o + (r.length + 1) = o + 1 + r.length from by omega, ih, Array.toList_setIfInBounds]
    have ho : o < cur.toList.length := by simp; omega
    rw [List.take_succ_eq_append_getElem (by rw [List.length_set]; exact ho), List.take_set_of_le (Nat.le_refl _)]
    simp
theorem heap_setCells_in (b : Nat) (e : TypeId) (fr : Nat × Nat) : ∀ (vs : List Value) (o : Nat) (w : World) (cur : Array Value), w.heap[b]? = some (.cells cur e fr) → (w.setCells b o vs).heap[b]? = some (.cells (setsAt cur o vs) e fr)
  | [], _, _, _, h => h
  | v :: r, o, w, cur, h => by
    rw [World.setCells, setsAt]
    refine heap_setCells_in b e fr r (o + 1) _ _ ?_
    show (w.heap.modify b _)[b]? = _
    rw [Array.getElem?_modify, if_pos rfl, h]
    rfl
theorem only_setCells (b : Nat) : ∀ (vs : List Value) (o : Nat) (w : World), Only (fun k => k = b) w (w.setCells b o vs)
  | [], _, w => Only.refl _ _
  | v :: r, o, w => ((Only.refl (fun k => k = b) w).setCell (p := ⟨b, o, none⟩) (fun _ => rfl) v).trans (only_setCells b r (o + 1) _) (fun _ _ h => h)

/-- **APPEND TO WHAT THE CALL OWNS, FROM WHATEVER SOURCE.** -/
theorem run_app {P : Program} {w : World} {t tx ty e : TypeId} {size bytes : Nat} {z : Value} (hE : Elem P t e size bytes z) {ao : Option Addr} {cap : Nat} {g : Option Nat} {n : Nat} {xs : List Value} (ho : Own w ao cap g e size n xs)
    {x : Value} {m : Nat} {news : List Value} (hs : Src P size tx x m news w) (h63 : n + m ≤ maxLen) (hb : (n + m) * bytes ≤ 140737488355328) :
    ∃ ao' cap' g' w', (Builtin.append_ #[t, tx] ty #[.slice ao n cap, x]).run P w = .ok (.slice ao' (n + m) cap') w' ∧ Own w' ao' cap' g' e size (n + m) (xs ++ news) ∧
      (g' = g ∨ g' = some w.heap.size) ∧ Only (fun k => g = some k) w w' := by
  obtain ⟨i, hi, hz, hsz, hby⟩ := hE.hi
  subst hsz
  subst hby
  have hsmall : n + m ≤ 9223372036854775807 := by simp only [maxLen] at h63; omega
  have hlen : (xs ++ news).length = (n + m) * i.size := by rw [List.length_append, ho.1, hs.newsLen, Nat.add_mul]
  by_cases hroom : n + m ≤ cap
  · rcases ho.2 with ⟨rfl, hc, hn0, rfl⟩ | ⟨b, cur, rfl, rfl, hh, hn, hcm, hcs, ht⟩
    · -- nil, and nothing is appended
      have hm : m = 0 := by omega
      subst hm; subst hn0; subst hc
      have hnews : news = [] := List.eq_nil_of_length_eq_zero (by simpa using hs.newsLen)
      have hxs : xs = [] := List.eq_nil_of_length_eq_zero (by simpa using ho.1)
      subst hnews; subst hxs
      refine ⟨none, 0, none, w, ?_, Own.nil w e i.size, .inl rfl, Only.refl _ _⟩
      have hst := run_storeCells_cells (P := P) 0 0 [] 0 w (by simp) (by simp) (by simp)
      rcases hs.kind with ⟨e', hk⟩ | hk <;> simp [Builtin.append_, run_underlying hE.ht, run_underlying hk, sizeOf, typeInfo, hi, hs.len, hs.cells]
    · have hfit : n * i.size + news.length ≤ cur.size := by rw [hs.newsLen, hcs, ← Nat.add_mul]; exact Nat.mul_le_mul_right _ hroom
      have hr := run_append_room_src (P := P) w t tx ty e i hE.ht hi b 0 n cap x m news hs hroom
        (fun j hj => by rw [cell_of_row w b _ cur e (0, 0) hh, Array.getElem?_eq_getElem (by omega)]; rfl)
        (fun j hj => by simp [World.frozen?, hh])
      refine ⟨_, _, some b, _, hr, ⟨hlen, .inr ⟨b, setsAt cur (0 + n * i.size) news, rfl, rfl, heap_setCells_in b e (0, 0) news _ w cur hh, hroom, hcm, by rw [setsAt_size, hcs], ?_⟩⟩, .inl rfl,
        (only_setCells b news _ w).mono (fun k _ hk => by rw [hk])⟩
      have h1 := setsAt_take news (0 + n * i.size) cur (by omega)
      rw [Nat.add_mul, ← hs.newsLen]
      rw [Nat.zero_add] at h1 ⊢
      rw [h1, ht]
  · have hcn : n ≤ cap := ho.capLe.1
    have hold : (Builtin.firstCells i.size n (.slice ao n cap)).run P w.drew = .ok xs.toArray w.drew := by
      rcases ho.2 with ⟨rfl, hc, hn0, rfl⟩ | ⟨b, cur, rfl, rfl, hh, hn, hcm, hcs, ht⟩
      · subst hn0
        have hxs : xs = [] := List.eq_nil_of_length_eq_zero (by simpa using ho.1)
        subst hxs
        exact run_firstCells_none w.drew i.size 0 0 cap
      · refine run_firstCells_some w.drew i.size n ⟨b, 0, none⟩ n cap xs ho.1 (fun j v hv => ?_)
        have hj : j < n * i.size := by rw [← ho.1]; exact (List.getElem?_eq_some_iff.1 hv).1
        rw [Addr.add_lit, Nat.zero_add]
        show w.cell? _ = _
        rw [ho.cell j hj, hv]
    have hr := run_append_grow_src (P := P) w t tx ty e i z hE.ht hi hz ao n cap xs hold x m news hs (by omega) (by omega)
      (growslice_fits (by omega) hb)
    have hge := grownCap_ge w (n + m) cap e
    refine ⟨_, _, some w.heap.size, _, hr, ⟨hlen, .inr ⟨w.heap.size, _, rfl, rfl, heap_alloc_new w.drew _, hge, grownCap_le_maxLen w (n + m) cap e h63, ?_, ?_⟩⟩, .inr rfl, ((Only.refl _ w).drew).alloc _⟩
    · simp only [Array.size_append, List.size_toArray, size_zeroCells, hE.hz, hlen, ← Nat.add_mul]
      congr 1
      omega
    · simp only [Array.toList_append]
      rw [← hlen]
      exact List.take_left

section
variable {P : Program} {w : World} {ops : Array Oper} {rest : List Oper} {o : Oper} {a : Act} {Q : Exit → Act → World → Prop}
theorem wpList_app (hg : o.guard = none) (s x : Operand) (t tx : TypeId) (hop : o.op = Op.call { callee := Callee.builtin Builtin.append, args := #[s, x], argTypes := #[t, tx] })
    {e : TypeId} {size bytes : Nat} {z : Value} (hE : Elem P t e size bytes z) {ao : Option Addr} {cap : Nat} {g : Option Nat} {n : Nat} {xs : List Value} (ho : Own w ao cap g e size n xs) (hs : a.eval s = .slice ao n cap)
    {xv : Value} {m : Nat} {news : List Value} (hx : a.eval x = xv) (hsrc : Src P size tx xv m news w) (h63 : n + m ≤ maxLen) (hb : (n + m) * bytes ≤ 140737488355328)
    (hK : ∀ ao' cap' g' w', Own w' ao' cap' g' e size (n + m) (xs ++ news) → (g' = g ∨ g' = some w.heap.size) → Only (fun k => g = some k) w w' → wpList P ops Q rest (a.put o.dst (.slice ao' (n + m) cap')) w') :
    wpList P ops Q (o :: rest) a w := by
  refine wpList_plain hg fun K hK' => ?_
  obtain ⟨ao', cap', g', w', hrun, r1, r2, r3⟩ := run_app (ty := o.type) hE ho hsrc h63 hb
  unfold Oper.wp
  simp [execOp, hop, resolve, invoke, builtin, hs, hx, hrun, Result.andThen]
  exact hK' _ _ (hK ao' cap' g' w' r1 r2 r3)
theorem wpListIn_app {F : Fence} {k : Nat} (hg : o.guard = none) (s x : Operand) (t tx : TypeId) (hop : o.op = Op.call { callee := Callee.builtin Builtin.append, args := #[s, x], argTypes := #[t, tx] })
    {e : TypeId} {size bytes : Nat} {z : Value} (hE : Elem P t e size bytes z) {ao : Option Addr} {cap : Nat} {g : Option Nat} {n : Nat} {xs : List Value} (ho : Own w ao cap g e size n xs) (hs : a.eval s = .slice ao n cap)
    {xv : Value} {m : Nat} {news : List Value} (hx : a.eval x = xv) (hsrc : Src P size tx xv m news w) (h63 : n + m ≤ maxLen) (hb : (n + m) * bytes ≤ 140737488355328)
    (hK : ∀ ao' cap' g' w', Own w' ao' cap' g' e size (n + m) (xs ++ news) → (g' = g ∨ g' = some w.heap.size) → Only (fun k => g = some k) w w' → wpListIn F k P ops Q rest (a.put o.dst (.slice ao' (n + m) cap')) w') :
    wpListIn F k P ops Q (o :: rest) a w := by
  refine wpListIn_plain hg fun K hK' => ?_
  obtain ⟨ao', cap', g', w', hrun, r1, r2, r3⟩ := run_app (ty := o.type) hE ho hsrc h63 hb
  unfold Oper.wpIn
  refine ⟨?_, ?_⟩
  · simp [Oper.about, hop, resolve, Target.leads, Sem.run_pure]
  · rw [Oper.semAt_plain F _ _ (by rw [hop]; intro c hc'; cases hc')]
    simp [execOp, hop, resolve, invoke, builtin, hs, hx, hrun, Result.andThen]
    exact hK' _ _ (hK ao' cap' g' w' r1 r2 r3)
end

/-- .. as one step of a region that draws its order -/
theorem step_app {P : Program} {ops : Array Oper} {o : Oper} {a : Act} {w : World} {K : Act → World → Prop} {Q : Exit → Act → World → Prop} {E : Prop}
    (hg : o.guard = none) (s x : Operand) (t tx : TypeId) (hop : o.op = Op.call { callee := Callee.builtin Builtin.append, args := #[s, x], argTypes := #[t, tx] })
    {e : TypeId} {size bytes : Nat} {z : Value} (hE : Elem P t e size bytes z) {ao : Option Addr} {cap : Nat} {g : Option Nat} {n : Nat} {xs : List Value} (ho : Own w ao cap g e size n xs) (hs : a.eval s = .slice ao n cap)
    {xv : Value} {m : Nat} {news : List Value} (hx : a.eval x = xv) (hsrc : Src P size tx xv m news w) (h63 : n + m ≤ maxLen) (hb : (n + m) * bytes ≤ 140737488355328)
    (hK : ∀ ao' cap' g' w', Own w' ao' cap' g' e size (n + m) (xs ++ news) → (g' = g ∨ g' = some w.heap.size) → Only (fun k => g = some k) w w' → K (a.put o.dst (.slice ao' (n + m) cap')) w') :
    if Region.wanted o (yielded ops a.tmps) = true then Oper.wp P o a w K Q else E := by
  have hw : Region.wanted o (yielded ops a.tmps) = true := by simp [Region.wanted, hg]
  rw [if_pos hw]
  obtain ⟨ao', cap', g', w', hrun, r1, r2, r3⟩ := run_app (ty := o.type) hE ho hsrc h63 hb
  unfold Oper.wp
  simp [execOp, hop, resolve, invoke, builtin, hs, hx, hrun, Result.andThen]
  exact hK ao' cap' g' w' r1 r2 r3

/-- what a call that hands back a slice of its own leaves -/
def RetOwn (e : TypeId) (size n : Nat) (xs : List Value) (w : World) (en : Ending) (w' : World) : Prop :=
  ∃ ao cap g, en = .returned (.slice ao n cap) ∧ Own w' ao cap g e size n xs ∧ (∀ k, g = some k → w.heap.size ≤ k) ∧ Below w.heap.size w w'
theorem cellNew (w : World) (c : Value) (t : TypeId) : ∀ j u, [c][j]? = some u → (w.alloc (.cells #[c] t)).cell? ((⟨w.heap.size, 0, none⟩ : Addr).add j) = some u := by
  intro j u hu
  rw [Addr.add_lit, Nat.zero_add, World.cell?_alloc_new]
  simpa using hu
/-- one new element, as the translation lays it ahead of an append -/
theorem srcOne {P : Program} {tx e' : TypeId} (hk : P.underlying tx = some (.slice e')) (w : World) (c : Value) (t : TypeId) (k : Nat) (h1 : c.oneCell' = true) :
    Src P 1 tx (.slice (some ⟨w.heap.size, 0, none⟩) 1 k) 1 [c] (w.alloc (.cells #[c] t)) :=
  Src.ofSlice (w.alloc (.cells #[c] t)) hk ⟨w.heap.size, 0, none⟩ 1 k [c] rfl (cellNew w c t) (by simpa using h1)
end Go.Proofs.Ytmflopeedofkhaa

namespace Go.Proofs.Ytmflopeedofkhaa
set_option linter.unusedSimpArgs false
set_option linter.unusedVariables false
set_option maxRecDepth 100000
open Go.RowKit

theorem upon_round {F : Fence} {n : Nat} {P : Program} {o : Oper} {a : Act} {K : Act → World → Prop} {Q : Exit → Act → World → Prop} (l : Nat) : ∀ {r : Result Next}, o.uponIn F n P a K Q r → o.uponIn (F.inRound l) n P a K Q r
  | .ok (.value _) _, h => h
  | .ok .skip _, h => h
  | .ok (.defer _) _, h => h
  | .ok (.enter _ _) _, h => h
  | .ok (.row _ _) _, h => h
  | .ok (.round _ _ _ _ _) _, h => h
  | .halt (.panic _) _, h => h
  | .halt (.fatal _) _, h => h
  | .halt (.unsupported _) _, h => h
theorem oper_round {F : Fence} {n : Nat} {P : Program} {o : Oper} {a : Act} {w : World} {K : Act → World → Prop} {Q : Exit → Act → World → Prop} (l : Nat) (hro : F.round = none) (hnd : ∀ c, o.op ≠ .defer c) (h : o.wpIn F n P a w K Q) : o.wpIn (F.inRound l) n P a w K Q := by
  refine ⟨h.1, ?_⟩
  have h2 := h.2
  rw [hro, Oper.semAt_none] at h2
  rw [Fence.inRound_round, Oper.semAt_eq _ _ _ hnd]
  exact upon_round l h2
def noDefer (ops : Array Oper) : Bool := ops.all (fun o => match o.op with | .defer _ => false | _ => true)
theorem noDefer_get {ops : Array Oper} (h : noDefer ops = true) {i : Nat} {o : Oper} (ho : ops[i]? = some o) : ∀ c, o.op ≠ .defer c := by
  intro c e
  obtain ⟨hi, rfl⟩ := Array.getElem?_eq_some_iff.1 ho
  have := Array.all_eq_true.1 h i hi
  rw [e] at this
  cases this
theorem anyIn_round {F : Fence} {n : Nat} {P : Program} {md : Region.Mode} {ops : Array Oper} {Q : Exit → Act → World → Prop} (l : Nat) (hro : F.round = none) (hnd : noDefer ops = true) : ∀ (fuel : Nat) (listed : Array Bool) (a : Act) (w : World),
    wpAnyIn F n P md ops Q fuel listed a w → wpAnyIn (F.inRound l) n P md ops Q fuel listed a w
  | 0, _, _, _, h => h
  | fuel + 1, _, a, w, h => ⟨h.1, fun i hi => by
    have h2 := wpOpIn_mono (fun a' w' h' => anyIn_round l hro hnd fuel _ a' w' h') (h.2 i hi)
    unfold wpOpIn at h2 ⊢
    split
    · rename_i ho; simp only [ho] at h2; exact h2
    · rename_i o ho
      simp only [ho] at h2
      split
      · rename_i hw; simp only [hw, if_true] at h2; exact oper_round l hro (noDefer_get hnd ho) h2
      · rename_i hw; simp only [hw] at h2; exact h2⟩
/-- the quiet law, in a round -/
theorem quiet_round {id l : Nat} {P : Program} {Q : Exit → Act → World → Prop} {a : Act} {w : World} {ops : List Oper} (hm : P.follows .mixedOrders = true) (hB : Region.lexB .any ops.toArray = true) (hnd : noDefer ops.toArray = true)
    (h : wpQuietIn Fence.wide 0 P ops.toArray (fun w' => ∃ n, w' = w.drewN n) (fun a' => ∀ w', (∃ n, w' = w.drewN n) → Q .normal a' w') ops a) : (Code.region id ops.toArray true).wpIn (Fence.wide.inRound l) 0 P Q a w := by
  simp only [Region.lexB, Bool.and_eq_true] at hB
  refine wpIn_region_any hm (anyIn_round l rfl hnd _ _ _ _ (wpAnyIn_of_quiet (C := fun w' => ∃ n, w' = w.drewN n) (Q := fun a' => ∀ w', (∃ n, w' = w.drewN n) → Q .normal a' w') rfl (fun _ w' hw' h => h w' hw') _ _ _ _ ⟨1, rfl⟩ ?_))
  have := wpAnyQIn_lex (F := Fence.wide) (n := 0) (C := fun w' => ∃ n, w' = w.drewN n) (md := .any) hB.1 ops 0 (Array.replicate ops.toArray.size false) a (by simp) (by simpa using hB.2) h
  simpa using this
/-- append in a region that draws, in a fence or a round -/
theorem step_appIn {F : Fence} {m0 : Nat} {P : Program} {ops : Array Oper} {o : Oper} {a : Act} {w : World} {K : Act → World → Prop} {Q : Exit → Act → World → Prop} {E : Prop} (hF : ∀ f, F.fn f)
    (hg : o.guard = none) (s x : Operand) (t tx : TypeId) (hop : o.op = Op.call { callee := Callee.builtin Builtin.append, args := #[s, x], argTypes := #[t, tx] })
    {e : TypeId} {size bytes : Nat} {z : Value} (hE : Elem P t e size bytes z) {ao : Option Addr} {cap : Nat} {g : Option Nat} {n : Nat} {xs : List Value} (ho : Own w ao cap g e size n xs) (hs : a.eval s = .slice ao n cap)
    {xv : Value} {m : Nat} {news : List Value} (hx : a.eval x = xv) (hsrc : Src P size tx xv m news w) (h63 : n + m ≤ maxLen) (hb : (n + m) * bytes ≤ 140737488355328)
    (hK : ∀ ao' cap' g' w', Own w' ao' cap' g' e size (n + m) (xs ++ news) → (g' = g ∨ g' = some w.heap.size) → Only (fun k => g = some k) w w' → K (a.put o.dst (.slice ao' (n + m) cap')) w') :
    if Region.wanted o (yielded ops a.tmps) = true then Oper.wpIn F m0 P o a w K Q else E := by
  have hw : Region.wanted o (yielded ops a.tmps) = true := by simp [Region.wanted, hg]
  rw [if_pos hw]
  obtain ⟨ao', cap', g', w', hrun, r1, r2, r3⟩ := run_app (ty := o.type) hE ho hsrc h63 hb
  refine ⟨fun f _ => hF f, ?_⟩
  rw [Oper.semAt_eq _ _ _ (fun c h => by rw [hop] at h; cases h)]
  simp [execOp, hop, resolve, invoke, builtin, hs, hx, hrun, Result.andThen]
  exact hK ao' cap' g' w' r1 r2 r3
end Go.Proofs.Ytmflopeedofkhaa
