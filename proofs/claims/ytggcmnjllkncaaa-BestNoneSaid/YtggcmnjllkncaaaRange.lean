/- A range over a function, my own law: the caller's blocks and the iterator's blocks by explicit footprints; the wide fence. No program in sight. -/
import Derived.Test.YtggcmnjllkncaaaBase
import Derived.RangeFuncNested
import Derived.RangeFuncBound
import Derived.RangeFuncCalls
import Derived.RangeFuncLeaves
import Derived.Shelf.Abstract
import Derived.Shelf.RegionOpen
import Derived.OwnWalkIn
import Derived.TacticsInMore
import Derived.LoopNIn
import Derived.LoopIn
import Derived.Deep.LoopGhost
namespace Go.Proofs.Ytggcmnjllkncaaa
set_option linter.unusedSimpArgs false
set_option linter.unusedVariables false
set_option maxRecDepth 100000
open Go.RowKit

@[go_sem] theorem wide_fn (f : FuncId) : Fence.wide.fn f := trivial
@[go_sem] theorem wide_depth : Fence.wide.depth = none := rfl

/-- The blocks of fp lie as they lay. -/
structure Stays (fp : Nat → Prop) (W W' : World) : Prop where
  os : W'.os = W.os
  tape : W'.tape = W.tape
  output : W'.output = W.output
  size : W.heap.size ≤ W'.heap.size
  same : ∀ k, fp k → W'.heap[k]? = W.heap[k]?

/-- Of what was there only blocks of fp may have turned. -/
structure Only (fp : Nat → Prop) (W W' : World) : Prop where
  os : W'.os = W.os
  tape : W'.tape = W.tape
  output : W'.output = W.output
  size : W.heap.size ≤ W'.heap.size
  same : ∀ k, k < W.heap.size → ¬ fp k → W'.heap[k]? = W.heap[k]?

theorem Stays.refl (fp : Nat → Prop) (W : World) : Stays fp W W := ⟨rfl, rfl, rfl, Nat.le_refl _, fun _ _ => rfl⟩
theorem Stays.trans {fp : Nat → Prop} {A B C : World} (h : Stays fp A B) (k : Stays fp B C) : Stays fp A C :=
  ⟨k.os.trans h.os, k.tape.trans h.tape, k.output.trans h.output, Nat.le_trans h.size k.size, fun i hi => (k.same i hi).trans (h.same i hi)⟩
theorem Stays.mono {fp fp' : Nat → Prop} {A B : World} (h : Stays fp A B) (hm : ∀ k, fp' k → fp k) : Stays fp' A B :=
  ⟨h.os, h.tape, h.output, h.size, fun k hk => h.same k (hm k hk)⟩
theorem Stays.cell {fp : Nat → Prop} {A B : World} (h : Stays fp A B) {b : Nat} (hb : fp b) (o : Nat) : B.cell? ⟨b, o, none⟩ = A.cell? ⟨b, o, none⟩ := World.cell?_of_block (w := A) (h.same b hb)
theorem Stays.frozen {fp : Nat → Prop} {A B : World} (h : Stays fp A B) {b : Nat} (hb : fp b) (o : Nat) : B.frozen? ⟨b, o, none⟩ = A.frozen? ⟨b, o, none⟩ := World.frozen?_of_block (w := A) (h.same b hb)

theorem Only.refl (fp : Nat → Prop) (W : World) : Only fp W W := ⟨rfl, rfl, rfl, Nat.le_refl _, fun _ _ _ => rfl⟩
theorem Only.mono {fp fp' : Nat → Prop} {A B : World} (h : Only fp A B) (hm : ∀ k, k < A.heap.size → fp k → fp' k) : Only fp' A B :=
  ⟨h.os, h.tape, h.output, h.size, fun k hk hn => h.same k hk (fun e => hn (hm k hk e))⟩
theorem Only.trans {fp fp' : Nat → Prop} {A B C : World} (h : Only fp A B) (k : Only fp' B C) (hf : ∀ i, i < A.heap.size → fp' i → fp i) : Only fp A C :=
  ⟨k.os.trans h.os, k.tape.trans h.tape, k.output.trans h.output, Nat.le_trans h.size k.size,
    fun i hi hn => (k.same i (Nat.lt_of_lt_of_le hi h.size) (fun e => hn (hf i hi e))).trans (h.same i hi hn)⟩
theorem Only.of_below {fp : Nat → Prop} {A B : World} (h : Below A.heap.size A B) : Only fp A B := ⟨h.os, h.tape, h.output, h.size, fun k hk _ => h.block k hk⟩
theorem Only.below {fp : Nat → Prop} {A B : World} {n : Nat} (h : Only fp A B) (hn : n ≤ A.heap.size) (hf : ∀ k, k < n → ¬ fp k) : Below n A B :=
  ⟨h.os, h.tape, h.output, h.size, fun k hk => h.same k (Nat.lt_of_lt_of_le hk hn) (hf k hk)⟩
theorem Only.alloc {fp : Nat → Prop} {A B : World} (h : Only fp A B) (o : Obj) : Only fp A (B.alloc o) := h.trans (fp' := fun _ => False) (Only.of_below (ext_alloc B o)) (fun _ _ e => e.elim)
theorem Only.drew {fp : Nat → Prop} {A B : World} (h : Only fp A B) : Only fp A B.drew := h.trans (fp' := fun _ => False) (Only.of_below (ext_drew B)) (fun _ _ e => e.elim)
theorem Only.drewN {fp : Nat → Prop} {A B : World} (h : Only fp A B) (n : Nat) : Only fp A (B.drewN n) := h.trans (fp' := fun _ => False) (Only.of_below (ext_drewN B n)) (fun _ _ e => e.elim)
theorem Only.setCell {fp : Nat → Prop} {A B : World} (h : Only fp A B) {p : Addr} (hp : p.block < A.heap.size → fp p.block) (v : Value) : Only fp A (B.setCell p v) :=
  h.trans (fp' := fun k => k = p.block) ⟨rfl, rfl, rfl, by simp [World.setCell], fun k _ hn => Below.heap_setCell _ _ _ _ hn⟩ (fun i hi e => by subst e; exact hp hi)
theorem Only.ext {fp : Nat → Prop} {A B C : World} (h : Only fp A B) (k : Below B.heap.size B C) : Only fp A C := h.trans (fp' := fun _ => False) (Only.of_below k) (fun _ _ e => e.elim)
theorem Only.putObj {fp : Nat → Prop} {A B : World} (h : Only fp A B) {l : Nat} (o : Obj) (hp : l < A.heap.size → fp l) : Only fp A (B.putObj l o) :=
  h.trans (fp' := fun k => k = l) ⟨rfl, rfl, rfl, by simp, fun k _ hn => World.putObj_heap_other hn⟩ (fun i hi e => by subst e; exact hp hi)
theorem Only.cell {fp : Nat → Prop} {A B : World} (h : Only fp A B) {b : Nat} (hb : b < A.heap.size) (hn : ¬ fp b) (o : Nat) : B.cell? ⟨b, o, none⟩ = A.cell? ⟨b, o, none⟩ := World.cell?_of_block (w := A) (h.same b hb hn)
theorem Only.frozen {fp : Nat → Prop} {A B : World} (h : Only fp A B) {b : Nat} (hb : b < A.heap.size) (hn : ¬ fp b) (o : Nat) : B.frozen? ⟨b, o, none⟩ = A.frozen? ⟨b, o, none⟩ := World.frozen?_of_block (w := A) (h.same b hb hn)
theorem Only.stays {fp gp : Nat → Prop} {A B : World} (h : Only fp A B) (hg : ∀ k, gp k → k < A.heap.size ∧ ¬ fp k) : Stays gp A B := ⟨h.os, h.tape, h.output, h.size, fun k hk => h.same k (hg k hk).1 (hg k hk).2⟩

/-- A part's step forward: only its own blocks have turned; its blocks behind it are its own or new. -/
structure Fwd (fp fp' : Nat → Prop) (W W' : World) : Prop where
  only : Only fp W W'
  own : ∀ k, fp' k → (fp k ∨ W.heap.size ≤ k) ∧ k < W'.heap.size

theorem Fwd.const {fp : Nat → Prop} {W W' : World} (h : Only fp W W') (hf : ∀ k, fp k → k < W.heap.size) : Fwd fp fp W W' :=
  ⟨h, fun k hk => ⟨.inl hk, Nat.lt_of_lt_of_le (hf k hk) h.size⟩⟩

/-- **THE ITERATOR's CONTRACT.** 'ok': which lists may have come; 'S': all have come; 'Bd': what the caller promises of what has come so far (of an iterator without an end: no more than ..); 'R x': what holds of an element as it comes; 'Pre': what the iterator reads; 'Rs': the blocks that it wants left alone by the caller's rounds; 'It': those that it may turn. -/
def IterR {α : Type} (P : Program) (g : Nat) (lb : Array Value) (encs : α → Array Value) (ok S Bd : List α → Prop) (R : List α → α → World → Prop) (Pre : World → Prop) (Rs It : Nat → Prop) : Prop :=
  ∀ (l : Nat) (J Jx : List α → (Nat → Prop) → World → Prop) (fp : Nat → Prop) (W : World), Pre W → (∀ k, fp k → k < W.heap.size ∧ ¬ Rs k) →
    (∀ pre fp A B, J pre fp A → Stays fp A B → J pre fp B) → (∀ pre fp A B, Jx pre fp A → Stays fp A B → Jx pre fp B) →
    (∀ pre fp A, J pre fp A → Bd pre) →
    (∀ pre fq x W1, J pre fq W1 → (∀ k, fq k → k < W1.heap.size) → Only (fun k => fp k ∨ It k) W W1 → ok (pre ++ [x]) → R pre x W1 → YieldAt Fence.wide 0 P l (encs x) W1 fun e W' =>
      ∃ fp', Fwd fq fp' W1 W' ∧ ((e = .returned (.bool true) ∧ J (pre ++ [x]) fp' W') ∨ (e = .returned (.bool false) ∧ Jx (pre ++ [x]) fp' W'))) →
    J [] fp W →
    CallsIn Fence.wide 0 P g (#[.func (.yield l) #[] #[]] ++ lb) W fun e W' => (∃ v, e = .returned v) ∧
      ∃ xs fp', Fwd (fun k => fp k ∨ It k) fp' W W' ∧ (∀ k, fp' k → fp k ∨ W.heap.size ≤ k) ∧ ((S xs ∧ J xs fp' W') ∨ (ok xs ∧ Jx xs fp' W'))
/-- .. where what it reads is what it may turn -/
abbrev Iter {α : Type} (P : Program) (g : Nat) (lb : Array Value) (encs : α → Array Value) (ok S Bd : List α → Prop) (R : List α → α → World → Prop) (Pre : World → Prop) (It : Nat → Prop) : Prop := IterR P g lb encs ok S Bd R Pre It It

theorem J_ext {α : Type} {J : List α → (Nat → Prop) → World → Prop} (hJ : ∀ pre fp A B, J pre fp A → Stays fp A B → J pre fp B) {pre : List α} {fp : Nat → Prop} {A B : World}
    (h : J pre fp A) (hf : ∀ k, fp k → k < A.heap.size) (hb : Below A.heap.size A B) : J pre fp B :=
  hJ _ _ _ _ h ⟨hb.os, hb.tape, hb.output, hb.size, fun k hk => hb.block k (hf k hk)⟩
theorem Fwd.refl {fp : Nat → Prop} {W : World} (hf : ∀ k, fp k → k < W.heap.size) : Fwd fp fp W W := Fwd.const (Only.refl _ _) hf
theorem Fwd.trans {fp fp' fp'' : Nat → Prop} {A B C : World} (h : Fwd fp fp' A B) (k : Fwd fp' fp'' B C) : Fwd fp fp'' A C :=
  ⟨h.only.trans k.only (fun i hi e => ((h.own i e).1).elim id (fun h => by omega)),
   fun i hi => ⟨(k.own i hi).1.elim (fun h' => (h.own i h').1) (fun h' => .inr (Nat.le_trans h.only.size h')), (k.own i hi).2⟩⟩
theorem Fwd.ext {fp fp' : Nat → Prop} {A B C : World} (h : Fwd fp fp' A B) (k : Below B.heap.size B C) : Fwd fp fp' A C :=
  ⟨h.only.ext k, fun i hi => ⟨(h.own i hi).1, Nat.lt_of_lt_of_le (h.own i hi).2 k.size⟩⟩
theorem Fwd.wider {fp fp' gp : Nat → Prop} {A B : World} (h : Fwd fp fp' A B) (hg : ∀ k, fp k → gp k) : Fwd gp fp' A B :=
  ⟨h.only.mono (fun k _ hk => hg k hk), fun i hi => ⟨(h.own i hi).1.imp (hg i) id, (h.own i hi).2⟩⟩
theorem leastOf_le {p : Nat → Prop} {m : Nat} (h : p m) : leastOf p ≤ m := (leastOf_spec ⟨m, h⟩).2 m h

/-- How a round may be left. -/
def roundEnd {α : Type} (fp : Nat → Prop) (W : World) (I : List α → (Nat → Prop) → World → Prop) (Ix : Code → List α → (Nat → Prop) → World → Prop) (xs : List α) : Exit → Act → World → Prop
  | .normal, _, W' => ∃ fp', Fwd fp fp' W W' ∧ I xs fp' W'
  | .ret, _, W' => ∃ fp', Fwd fp fp' W W' ∧ Ix .ret xs fp' W'
  | .exit id, _, W' => ∃ fp', Fwd fp fp' W W' ∧ Ix (.exit id) xs fp' W'
  | .goto t, _, W' => ∃ fp', Fwd fp fp' W W' ∧ Ix (.goto t) xs fp' W'
  | .panic _, _, _ => False
  | .outgrown, _, _ => False

variable {P : Program} {α : Type} {g : Operand} {ps : Array Tmp} {assign body : Code} {Q : Exit → Act → World → Prop} {a : Act} {w : World}

/-- ONE ROUND, its record among the caller's blocks. -/
theorem round_law {encs : α → Array Value} (I : List α → (Nat → Prop) → World → Prop) (Ix : Code → List α → (Nat → Prop) → World → Prop)
    (hI : ∀ pre fp A B, I pre fp A → Stays fp A B → I pre fp B) (hIx : ∀ c pre fp A B, Ix c pre fp A → Stays fp A B → Ix c pre fp B)
    (Ax : List α → α → Act → World → Prop) (hAx : ∀ pre x a' A l r r', A.heap[l]? = some (.loop r) → Ax pre x a' A → Ax pre x a' (A.putObj l (.loop r')))
    (l : Nat) (fn : FuncId) (dn : Nat) (hps : ∀ x, (encs x).size = ps.size)
    (pre : List α) (fp : Nat → Prop) (x : α) (W : World) (hi : I pre fp W) (hfp : ∀ k, fp k → k < W.heap.size) (hnl : ¬ fp l)
    (hl : W.heap[l]? = some (.loop { state := .ready, pending := none, fn, tmps := a.tmps, params := ps, assign, body, defers := dn }))
    (hassign : ∀ (K : Act → World → Prop), (∀ a' W', Only (fun _ => False) W W' → Ax pre x a' W' → K a' W') →
      assign.wpIn (Fence.wide.inRound l) 0 P (Exit.then K (fun _ _ _ => False)) { tmps := (ps.zip (encs x)).foldl (fun t (p, v) => t.setIfInBounds p v) a.tmps, defers := [] } W)
    (hbody : ∀ (a' : Act) (W' : World), W.heap.size ≤ W'.heap.size → (∃ r, W'.heap[l]? = some (.loop r)) → I pre fp W' → Ax pre x a' W' → Only (fun k => k = l) W W' →
      body.wpIn (Fence.wide.inRound l) 0 P (roundEnd fp W' I Ix (pre ++ [x])) a' W') :
    YieldAt Fence.wide 0 P l (encs x) W fun e W' =>
      ∃ fp', Fwd (fun k => fp k ∨ k = l) (fun k => fp' k ∨ k = l) W W' ∧ ¬ fp' l ∧
      ((e = .returned (.bool true) ∧ I (pre ++ [x]) fp' W' ∧ W'.heap[l]? = some (.loop { state := .ready, pending := none, fn, tmps := a.tmps, params := ps, assign, body, defers := dn })) ∨
       (e = .returned (.bool false) ∧ ∃ c, Ix c (pre ++ [x]) fp' W' ∧ W'.heap[l]? = some (.loop { state := .done, pending := some c, fn, tmps := a.tmps, params := ps, assign, body, defers := dn }))) := by
  obtain ⟨rec, hrec⟩ : ∃ rec : LoopState → Option Code → Loop, rec = fun st pe => { state := st, pending := pe, fn, tmps := a.tmps, params := ps, assign, body, defers := dn } := ⟨_, rfl⟩
  have hr1 : ∀ st pe, ({ state := st, pending := pe, fn, tmps := a.tmps, params := ps, assign, body, defers := dn } : Loop) = rec st pe := fun st pe => by rw [hrec]
  simp only [hr1] at hl ⊢
  have hlt : l < W.heap.size := (Array.getElem?_eq_some_iff.1 hl).1
  have hy := run_yield (P := P) (args := encs x) hl (by rw [hrec]; exact hps x)
  rw [hrec] at hy
  refine ⟨fn, _, assign, body, hy, roundIn_of_wpIn trivial (hassign _ ?_)⟩
  clear hy
  intro a' Wa honly hax
  have hl' : Wa.heap[l]? = some (.loop (rec .ready none)) := (honly.same l hlt (fun h => h)).trans hl
  have hlta : l < Wa.heap.size := (Array.getElem?_eq_some_iff.1 hl').1
  refine ⟨_, run_beginRound hl' (by rw [hrec]), ?_⟩
  have hl2 : (Wa.putObj l (.loop { rec .ready none with state := .busy })).heap[l]? = some (.loop { rec .ready none with state := .busy }) := World.putObj_heap_same hlta
  have ho2 : Only (fun k => k = l) W (Wa.putObj l (.loop { rec .ready none with state := .busy })) := (honly.mono (fun _ _ e => e.elim)).putObj _ (fun _ => rfl)
  have hi2 : I pre fp (Wa.putObj l (.loop { rec .ready none with state := .busy })) :=
    hI _ _ _ _ hi (ho2.stays (fun k hk => ⟨hfp k hk, fun e => hnl (e ▸ hk)⟩))
  have hsz2 : W.heap.size ≤ (Wa.putObj l (.loop { rec .ready none with state := .busy })).heap.size := ho2.size
  refine wpIn_mono (hbody a' _ hsz2 ⟨_, hl2⟩ hi2 (hAx _ _ _ _ _ _ _ hl' hax) ho2) ?_
  generalize hWb : Wa.putObj l (.loop { rec .ready none with state := .busy }) = Wb at hl2 ho2 hi2 hsz2 ⊢
  have fin : ∀ (jump : Option Code) (fp' : Nat → Prop) (W3 : World), Fwd fp fp' Wb W3 →
      (Instr.endRound l jump).run P W3 = .ok (.bool jump.isNone) (W3.putObj l (.loop (rec (if jump.isNone then .ready else .done) jump))) ∧
      (W3.putObj l (.loop (rec (if jump.isNone then .ready else .done) jump))).heap[l]? = some (.loop (rec (if jump.isNone then .ready else .done) jump)) ∧
      ¬ fp' l ∧ Stays fp' W3 (W3.putObj l (.loop (rec (if jump.isNone then .ready else .done) jump))) ∧
      Fwd (fun k => fp k ∨ k = l) (fun k => fp' k ∨ k = l) W (W3.putObj l (.loop (rec (if jump.isNone then .ready else .done) jump))) := fun jump fp' W3 hf => by
    have hltb : l < Wb.heap.size := (Array.getElem?_eq_some_iff.1 hl2).1
    have hl3 : W3.heap[l]? = some (.loop { rec .ready none with state := .busy }) := (hf.only.same l hltb hnl).trans hl2
    have hn : ¬ fp' l := fun h => (hf.own l h).1.elim hnl (fun h => by omega)
    have := run_endRound (P := P) jump hl3
    rw [hrec] at this ⊢
    refine ⟨this, World.putObj_heap_same (Array.getElem?_eq_some_iff.1 hl3).1, hn, ⟨rfl, rfl, rfl, by simp, fun k hk => World.putObj_heap_other (fun e => hn (e ▸ hk))⟩, ?_, ?_⟩
    · exact ((ho2.mono (fp' := fun k => fp k ∨ k = l) (fun _ _ e => .inr e)).trans hf.only (fun i _ h => .inl h)).putObj _ (fun _ => .inr rfl)
    · intro k hk
      have hs3 : W3.heap.size = (W3.putObj l (.loop { state := if jump.isNone then .ready else .done, pending := jump, fn, tmps := a.tmps, params := ps, assign, body, defers := dn })).heap.size := by simp
      rw [← hs3]
      rcases hk with hk | rfl
      · obtain ⟨h1, h2⟩ := hf.own k hk
        exact ⟨h1.elim (fun h => .inl (.inl h)) (fun h => .inr (by omega)), h2⟩
      · exact ⟨.inl (.inr rfl), (Array.getElem?_eq_some_iff.1 hl3).1⟩
  rintro e a3 W3 hp
  cases e with
  | normal =>
    obtain ⟨fp', hf, hi3⟩ := hp
    obtain ⟨hr, hl4, hn, hst, hfw⟩ := fin none fp' W3 hf
    exact ⟨_, _, hr, fp', hfw, hn, .inl ⟨rfl, hI _ _ _ _ hi3 hst, hl4⟩⟩
  | ret =>
    obtain ⟨fp', hf, hi3⟩ := hp
    obtain ⟨hr, hl4, hn, hst, hfw⟩ := fin (some .ret) fp' W3 hf
    exact ⟨_, _, hr, fp', hfw, hn, .inr ⟨rfl, .ret, hIx _ _ _ _ _ hi3 hst, hl4⟩⟩
  | exit id =>
    obtain ⟨fp', hf, hi3⟩ := hp
    obtain ⟨hr, hl4, hn, hst, hfw⟩ := fin (some (.exit id)) fp' W3 hf
    exact ⟨_, _, hr, fp', hfw, hn, .inr ⟨rfl, .exit id, hIx _ _ _ _ _ hi3 hst, hl4⟩⟩
  | goto t =>
    obtain ⟨fp', hf, hi3⟩ := hp
    obtain ⟨hr, hl4, hn, hst, hfw⟩ := fin (some (.goto t)) fp' W3 hf
    exact ⟨_, _, hr, fp', hfw, hn, .inr ⟨rfl, .goto t, hIx _ _ _ _ _ hi3 hst, hl4⟩⟩
  | panic ch => exact hp.elim
  | outgrown => exact hp.elim

/-- **THE STATEMENT, outside every round.** -/
theorem wpIn_range {gf : Nat} {lb : Array Value} (hg : a.eval g = .func (.func gf) #[] lb) (eg : ∀ args w, (callFunc gf args).run P w = .ok (.enter gf args) w)
    {encs : α → Array Value} {ok S Bd : List α → Prop} {R : List α → α → World → Prop} {Pre : World → Prop} {Rs It : Nat → Prop} (hit : IterR P gf lb encs ok S Bd R Pre Rs It)
    (hps : ∀ x, (encs x).size = ps.size)
    (fp0 : Nat → Prop) (hfp : ∀ k, fp0 k → k < w.heap.size ∧ ¬ Rs k) (hItb : ∀ k, Rs k → k < w.heap.size)
    (I : List α → (Nat → Prop) → World → Prop) (Ix : Code → List α → (Nat → Prop) → World → Prop)
    (hI : ∀ pre fp A B, I pre fp A → Stays fp A B → I pre fp B) (hIx : ∀ c pre fp A B, Ix c pre fp A → Stays fp A B → Ix c pre fp B)
    (hBd : ∀ pre fp A, I pre fp A → Bd pre)
    (Ax : List α → α → Act → World → Prop) (hAx : ∀ pre x a' A l r r', A.heap[l]? = some (.loop r) → Ax pre x a' A → Ax pre x a' (A.putObj l (.loop r')))
    (hPre : ∀ W, Below w.heap.size w W → Pre W) (h0 : I [] fp0 w)
    (hassign : ∀ (l : Nat) (pre : List α) (fp : Nat → Prop) (x : α) (W : World) (K : Act → World → Prop), w.heap.size ≤ W.heap.size → Only (fun k => fp0 k ∨ It k) w W → ok (pre ++ [x]) → R pre x W → I pre fp W →
      (∀ a' W', Only (fun _ => False) W W' → Ax pre x a' W' → K a' W') →
      assign.wpIn (Fence.wide.inRound l) 0 P (Exit.then K (fun _ _ _ => False)) { tmps := (ps.zip (encs x)).foldl (fun t (p, v) => t.setIfInBounds p v) a.tmps, defers := [] } W)
    (hbody : ∀ (l : Nat) (pre : List α) (fp : Nat → Prop) (x : α) (a' : Act) (W W0 : World), w.heap.size ≤ l → (∃ r, W.heap[l]? = some (.loop r)) → Only (fun k => fp0 k ∨ It k) w W → ok (pre ++ [x]) → R pre x W0 → Only (fun k => k = l) W0 W → ¬ fp l →
      (∀ k, fp k → k < W.heap.size) → I pre fp W → Ax pre x a' W → w.heap.size ≤ W.heap.size →
      body.wpIn (Fence.wide.inRound l) 0 P (roundEnd fp W I Ix (pre ++ [x])) a' W)
    (hdone : ∀ (D : Nat) (xs : List α) (fp' : Nat → Prop) (W : World), w.heap.size ≤ D → S xs → I xs fp' W → Only (fun k => fp0 k ∨ It k) w W → (∀ k, fp' k → fp0 k ∨ w.heap.size ≤ k) → (∀ k, fp' k → k < W.heap.size) → ¬ fp' D → W.heap[D]? = some (.deferred (some [])) →
      Q .normal { a with defers := { target := .collected D, args := #[] } :: a.defers } W)
    (hstop : ∀ (D : Nat) (c : Code) (xs : List α) (fp' : Nat → Prop) (W : World), w.heap.size ≤ D → ok xs → Ix c xs fp' W → Only (fun k => fp0 k ∨ It k) w W → (∀ k, fp' k → fp0 k ∨ w.heap.size ≤ k) → (∀ k, fp' k → k < W.heap.size) → ¬ fp' D → W.heap[D]? = some (.deferred (some [])) →
      c.wpIn Fence.wide 0 P Q { a with defers := { target := .collected D, args := #[] } :: a.defers } W) :
    (Code.rangeFunc g ps assign body).wpIn Fence.wide 0 P Q a w := by
  refine wpIn_rangeFunc ?_
  intro fn _
  obtain ⟨rec, hrec⟩ : ∃ rec : LoopState → Option Code → Loop, rec = fun st pe => { state := st, pending := pe, fn, tmps := a.tmps, params := ps, assign, body, defers := w.heap.size } := ⟨_, rfl⟩
  obtain ⟨W1, hW1⟩ : ∃ W1, (w.alloc (.deferred (some []))).alloc (.loop (rec .ready none)) = W1 := ⟨_, rfl⟩
  have hL1 : W1.heap[w.heap.size + 1]? = some (.loop (rec .ready none)) := by
    rw [← hW1]; have := World.alloc_heap_new (w.alloc (.deferred (some []))) (.loop (rec .ready none)); rwa [World.size_alloc] at this
  have hK1 : W1.heap[w.heap.size]? = some (.deferred (some [])) := by
    rw [← hW1]; exact (Below.heap_alloc _ _ _ (by simp)).trans (World.alloc_heap_new w _)
  have hsz1 : W1.heap.size = w.heap.size + 2 := by rw [← hW1]; simp
  have hb1 : Below w.heap.size w W1 := by rw [← hW1]; exact (ext_alloc w _).trans ((Below.refl _ _).alloc (by simp) _)
  have hI1 : I [] fp0 W1 := hI _ _ _ _ h0 ⟨hb1.os, hb1.tape, hb1.output, hb1.size, fun k hk => hb1.block k (hfp k hk).1⟩
  refine ⟨w.heap.size + 1, [{ target := .collected w.heap.size, args := #[] }], W1, { target := .fn (.func gf) lb, args := #[.func (.yield (w.heap.size + 1)) #[] #[]] }, W1, gf,
    #[.func (.yield (w.heap.size + 1)) #[] #[]] ++ lb, W1, ?_, ?_, fun _ _ => trivial, ?_, fun h => by simp [Fence.wide] at h, ?_⟩
  · rw [← hW1, hrec]; exact run_enterLoop_outer _ _ _ _ _
  · simp only [resolve, hg]
    simp [go_sem]
  · simp [invoke, go_sem, eg]
  · have spl : ∀ {fp : Nat → Prop} {A B : World}, Stays (fun k => fp k ∨ k = w.heap.size + 1 ∨ k = w.heap.size) A B → Stays fp A B ∧ B.heap[w.heap.size + 1]? = A.heap[w.heap.size + 1]? ∧ B.heap[w.heap.size]? = A.heap[w.heap.size]? :=
      fun h => ⟨h.mono fun k hk => .inl hk, h.same _ (.inr (.inl rfl)), h.same _ (.inr (.inr rfl))⟩
    have hitf : ∀ k, (fp0 k ∨ k = w.heap.size + 1 ∨ k = w.heap.size) → k < W1.heap.size ∧ ¬ Rs k := by
      rintro k (hk | rfl | rfl)
      · exact ⟨by have := (hfp k hk).1; omega, (hfp k hk).2⟩
      · exact ⟨by omega, fun h => by have := hItb _ h; omega⟩
      · exact ⟨by omega, fun h => by have := hItb _ h; omega⟩
    refine (hit (w.heap.size + 1)
      (fun pre fpp W => ∃ fp, (∀ k, fpp k ↔ (fp k ∨ k = w.heap.size + 1 ∨ k = w.heap.size)) ∧ ¬ fp (w.heap.size + 1) ∧ ¬ fp w.heap.size ∧ I pre fp W ∧ W.heap[w.heap.size + 1]? = some (.loop (rec .ready none)) ∧ W.heap[w.heap.size]? = some (.deferred (some [])) ∧ w.heap.size ≤ W.heap.size)
      (fun pre fpp W => ∃ fp, (∀ k, fpp k ↔ (fp k ∨ k = w.heap.size + 1 ∨ k = w.heap.size)) ∧ ¬ fp (w.heap.size + 1) ∧ ¬ fp w.heap.size ∧ (∃ c, Ix c pre fp W ∧ W.heap[w.heap.size + 1]? = some (.loop (rec .done (some c)))) ∧ W.heap[w.heap.size]? = some (.deferred (some [])))
      (fun k => fp0 k ∨ k = w.heap.size + 1 ∨ k = w.heap.size) W1 (hPre W1 hb1) hitf ?_ ?_ ?_ ?_
      ⟨fp0, fun _ => Iff.rfl, fun h => by have := (hfp _ h).1; omega, fun h => by have := (hfp _ h).1; omega, hI1, hL1, hK1, by omega⟩).mono ?_
    · rintro pre fpp A B ⟨fp, hf, hn1, hn2, hi, hl, hk, hs⟩ hst
      obtain ⟨s1, s2, s3⟩ := spl (fp := fp) (hst.mono fun k hk => (hf k).2 hk)
      exact ⟨fp, hf, hn1, hn2, hI _ _ _ _ hi s1, s2.trans hl, s3.trans hk, Nat.le_trans hs hst.size⟩
    · rintro pre fpp A B ⟨fp, hf, hn1, hn2, ⟨c, hi, hl⟩, hk⟩ hst
      obtain ⟨s1, s2, s3⟩ := spl (fp := fp) (hst.mono fun k hk => (hf k).2 hk)
      exact ⟨fp, hf, hn1, hn2, ⟨c, hIx _ _ _ _ _ hi s1, s2.trans hl⟩, s3.trans hk⟩
    · rintro pre fpp A ⟨fp, _, _, _, hi, _⟩
      exact hBd _ _ _ hi
    · rintro pre fpp x W ⟨fp, hf, hn1, hn2, hi, hl, hk, hs⟩ hlt honl hok hR
      have hov : Only (fun k => fp0 k ∨ It k) w W := by
        refine (Only.of_below (fp := fun k => fp0 k ∨ It k) hb1).trans honl ?_
        rintro i hi ((h | h | h) | h)
        · exact .inl h
        · omega
        · omega
        · exact .inr h
      rw [hrec] at hl
      have hfp' : ∀ k, fp k → k < W.heap.size := fun k h => hlt k ((hf k).2 (.inl h))
      obtain ⟨fn', tmps', assign', body', hy, hro⟩ := round_law (P := P) I Ix hI hIx Ax hAx (w.heap.size + 1) fn w.heap.size hps pre fp x W hi hfp' hn1 hl
        (fun K hK => hassign _ pre fp x W K hs hov hok hR hi hK)
        (fun a' W' hsz hr hi' hax ho => hbody _ pre fp x a' W' W (by omega) hr (hov.trans ho (fun i hi e => by omega)) hok hR ho hn1 (fun k hk => by have := hfp' k hk; omega) hi' hax (by omega))
      refine ⟨fn', tmps', assign', body', hy, hro.mono ?_⟩
      rintro e W' ⟨fp', hfw, hn', hor⟩
      have hkd : W'.heap[w.heap.size]? = some (.deferred (some [])) :=
        (hfw.only.same _ (Array.getElem?_eq_some_iff.1 hk).1 (fun h => h.elim hn2 (fun h => by omega))).trans hk
      have hnd : ¬ fp' w.heap.size := fun h => (hfw.own _ (.inl h)).1.elim (fun h => h.elim hn2 (fun h => by omega)) (fun h => by have := (Array.getElem?_eq_some_iff.1 hk).1; omega)
      refine ⟨fun k => fp' k ∨ k = w.heap.size + 1 ∨ k = w.heap.size, ⟨hfw.only.mono ?_, ?_⟩, ?_⟩
      · rintro k _ (h | h)
        · exact (hf k).2 (.inl h)
        · exact (hf k).2 (.inr (.inl h))
      · rintro k (h | h | h)
        · obtain ⟨h1, h2⟩ := hfw.own k (.inl h)
          exact ⟨h1.elim (fun h => .inl ((hf k).2 (h.elim .inl (fun h => .inr (.inl h))))) .inr, h2⟩
        · exact ⟨.inl ((hf k).2 (.inr (.inl h))), by subst h; exact (hfw.own _ (.inr rfl)).2⟩
        · exact ⟨.inl ((hf k).2 (.inr (.inr h))), by subst h; exact (Array.getElem?_eq_some_iff.1 hkd).1⟩
      · rcases hor with ⟨rfl, hi', hl'⟩ | ⟨rfl, c, hi', hl'⟩
        · exact .inl ⟨rfl, fp', fun _ => Iff.rfl, hn', hnd, hi', by rw [hrec]; exact hl', hkd, Nat.le_trans hs hfw.only.size⟩
        · exact .inr ⟨rfl, fp', fun _ => Iff.rfl, hn', hnd, ⟨c, hi', by rw [hrec]; exact hl'⟩, hkd⟩
    · have hfin : ∀ (fpp : Nat → Prop) (W2 : World) (r' : Loop), Fwd (fun k => (fp0 k ∨ k = w.heap.size + 1 ∨ k = w.heap.size) ∨ It k) fpp W1 W2 → W2.heap[w.heap.size]? = some (.deferred (some [])) →
          Only (fun k => fp0 k ∨ It k) w (W2.putObj (w.heap.size + 1) (.loop r')) ∧ (W2.putObj (w.heap.size + 1) (.loop r')).heap[w.heap.size]? = some (.deferred (some [])) := fun fpp W2 r' hf hk => by
        refine ⟨?_, (World.putObj_heap_other (by omega)).trans hk⟩
        refine ((Only.of_below (fp := fun k => fp0 k ∨ It k) hb1).trans (fp' := fun k => (fp0 k ∨ k = w.heap.size + 1 ∨ k = w.heap.size) ∨ It k) hf.only ?_).putObj _ (fun h => by omega)
        rintro i hi ((h | h | h) | h)
        · exact .inl h
        · omega
        · omega
        · exact .inr h
      rintro e W2 ⟨⟨v, rfl⟩, xs, fpp, hfw, hfo, (⟨hS, fp', hf, hn1, hn2, hi, hl, hk, _⟩ | ⟨hS, fp', hf, hn1, hn2, ⟨c, hi, hl⟩, hk⟩)⟩
      · obtain ⟨ho, hk2⟩ := hfin fpp W2 { rec .ready none with state := .exhausted } hfw hk
        have hrn := run_endLoop (P := P) hl (by rw [hrec]; simp)
        refine ⟨none, _, by rw [hrec] at hrn; exact hrn, ?_⟩
        refine hdone _ xs fp' _ (Nat.le_refl _) hS (hI _ _ _ _ hi ⟨rfl, rfl, rfl, by simp, fun k hk => World.putObj_heap_other (fun e => hn1 (e ▸ hk))⟩) (by rw [hrec] at ho; exact ho) ?_ ?_ hn2 (by rw [hrec] at hk2; exact hk2)
        · intro k hk'
          rcases hfo k ((hf k).2 (.inl hk')) with (h | h | h) | h
          · exact .inl h
          · exact absurd (h ▸ hk') hn1
          · exact absurd (h ▸ hk') hn2
          · exact .inr (by omega)
        · intro k hk'; simpa using (hfw.own k ((hf k).2 (.inl hk'))).2
      · obtain ⟨ho, hk2⟩ := hfin fpp W2 { rec .done (some c) with state := .exhausted } hfw hk
        have hrn := run_endLoop (P := P) hl (by rw [hrec]; simp)
        refine ⟨some c, _, by rw [hrec] at hrn; exact hrn, ?_⟩
        refine hstop _ c xs fp' _ (Nat.le_refl _) hS (hIx _ _ _ _ _ hi ⟨rfl, rfl, rfl, by simp, fun k hk => World.putObj_heap_other (fun e => hn1 (e ▸ hk))⟩) (by rw [hrec] at ho; exact ho) ?_ ?_ hn2 (by rw [hrec] at hk2; exact hk2)
        · intro k hk'
          rcases hfo k ((hf k).2 (.inl hk')) with (h | h | h) | h
          · exact .inl h
          · exact absurd (h ▸ hk') hn1
          · exact absurd (h ▸ hk') hn2
          · exact .inr (by omega)
        · intro k hk'; simpa using (hfw.own k ((hf k).2 (.inl hk'))).2

/-- How a round may be left, the caller's blocks fixed. -/
def roundEnd1 {α : Type} (fp : Nat → Prop) (W : World) (I : List α → World → Prop) (Ix : Code → List α → World → Prop) (xs : List α) : Exit → Act → World → Prop
  | .normal, _, W' => Only fp W W' ∧ I xs W'
  | .ret, _, W' => Only fp W W' ∧ Ix .ret xs W'
  | .exit id, _, W' => Only fp W W' ∧ Ix (.exit id) xs W'
  | .goto t, _, W' => Only fp W W' ∧ Ix (.goto t) xs W'
  | .panic _, _, _ => False
  | .outgrown, _, _ => False

/-- **THE STATEMENT, outside every round; the caller's blocks fixed; the loop's variables in slots.** -/
theorem wpIn_range1 {gf : Nat} {lb : Array Value} (hg : a.eval g = .func (.func gf) #[] lb) (eg : ∀ args w, (callFunc gf args).run P w = .ok (.enter gf args) w)
    {encs : α → Array Value} {ok S Bd : List α → Prop} {R : List α → α → World → Prop} {Pre : World → Prop} {Rs It : Nat → Prop} (hit : IterR P gf lb encs ok S Bd R Pre Rs It)
    (hps : ∀ x, (encs x).size = ps.size)
    (fp : Nat → Prop) (hfp : ∀ k, fp k → k < w.heap.size ∧ ¬ Rs k) (hItb : ∀ k, Rs k → k < w.heap.size)
    (I : List α → World → Prop) (Ix : Code → List α → World → Prop)
    (hI : ∀ pre A B, I pre A → Stays fp A B → I pre B) (hIx : ∀ c pre A B, Ix c pre A → Stays fp A B → Ix c pre B)
    (hBd : ∀ pre A, I pre A → Bd pre)
    (hPre : ∀ W, Below w.heap.size w W → Pre W) (h0 : I [] w) (sets : List (Nat × (α → Value)))
    (hassign : ∀ (l : Nat) (x : α) (W : World) (K : Act → World → Prop), K { tmps := sets.foldl (fun t p => t.setIfInBounds p.1 (p.2 x)) a.tmps, defers := [] } W →
      assign.wpIn (Fence.wide.inRound l) 0 P (Exit.then K (fun _ _ _ => False)) { tmps := (ps.zip (encs x)).foldl (fun t (p, v) => t.setIfInBounds p v) a.tmps, defers := [] } W)
    (hbody : ∀ (l : Nat) (pre : List α) (x : α) (W W0 : World), w.heap.size ≤ l → (∃ r, W.heap[l]? = some (.loop r)) → Only (fun k => fp k ∨ It k) w W → ok (pre ++ [x]) → R pre x W0 → Only (fun k => k = l) W0 W →
      I pre W → w.heap.size ≤ W.heap.size → body.wpIn (Fence.wide.inRound l) 0 P (roundEnd1 fp W I Ix (pre ++ [x])) { tmps := sets.foldl (fun t p => t.setIfInBounds p.1 (p.2 x)) a.tmps, defers := [] } W)
    (hdone : ∀ (D : Nat) (xs : List α) (W : World), w.heap.size ≤ D → S xs → I xs W → Only (fun k => fp k ∨ It k) w W → W.heap[D]? = some (.deferred (some [])) →
      Q .normal { a with defers := { target := .collected D, args := #[] } :: a.defers } W)
    (hstop : ∀ (D : Nat) (c : Code) (xs : List α) (W : World), w.heap.size ≤ D → ok xs → Ix c xs W → Only (fun k => fp k ∨ It k) w W → W.heap[D]? = some (.deferred (some [])) →
      c.wpIn Fence.wide 0 P Q { a with defers := { target := .collected D, args := #[] } :: a.defers } W) :
    (Code.rangeFunc g ps assign body).wpIn Fence.wide 0 P Q a w := by
  have hst : ∀ {fq : Nat → Prop} {A B : World}, (∀ k, fq k ↔ fp k) → Stays fq A B → Stays fp A B := fun h k => k.mono (fun i hi => (h i).2 hi)
  refine wpIn_range (P := P) hg eg hit hps fp hfp hItb (fun pre fq W => (∀ k, fq k ↔ fp k) ∧ w.heap.size ≤ W.heap.size ∧ I pre W) (fun c pre fq W => (∀ k, fq k ↔ fp k) ∧ w.heap.size ≤ W.heap.size ∧ Ix c pre W)
    (fun pre fq A B h k => ⟨h.1, Nat.le_trans h.2.1 k.size, hI _ _ _ h.2.2 (hst h.1 k)⟩) (fun c pre fq A B h k => ⟨h.1, Nat.le_trans h.2.1 k.size, hIx _ _ _ _ h.2.2 (hst h.1 k)⟩)
    (fun pre fq A h => hBd _ _ h.2.2) (fun _ x a' _ => a' = { tmps := sets.foldl (fun t p => t.setIfInBounds p.1 (p.2 x)) a.tmps, defers := [] }) (fun _ _ _ _ _ _ _ _ h => h) hPre ⟨fun _ => Iff.rfl, Nat.le_refl _, h0⟩
    (fun l pre fq x W K _ _ _ _ _ hK => hassign l x W K (hK _ _ (Only.refl _ _) rfl)) ?_
    (fun D xs fq W hD hS h ho _ _ _ hk => hdone D xs W hD hS h.2.2 ho hk) (fun D c xs fq W hD hS h ho _ _ _ hk => hstop D c xs W hD hS h.2.2 ho hk)
  rintro l pre fq x a' W W0 hl hr ho hok hR ho0 hnl hb ⟨hfq, hsz, hi⟩ rfl hsz'
  have conv : ∀ {W' : World}, Only fp W W' → Fwd fq fq W W' := fun h => ⟨h.mono (fun k _ hk => (hfq k).2 hk), fun k hk => ⟨.inl hk, Nat.lt_of_lt_of_le (hb k hk) h.size⟩⟩
  refine wpIn_mono (hbody l pre x W W0 hl hr ho hok hR ho0 hi hsz') ?_
  rintro e a3 W3 hp
  cases e with
  | normal => exact ⟨fq, conv hp.1, hfq, Nat.le_trans hsz' hp.1.size, hp.2⟩
  | ret => exact ⟨fq, conv hp.1, hfq, Nat.le_trans hsz' hp.1.size, hp.2⟩
  | exit id => exact ⟨fq, conv hp.1, hfq, Nat.le_trans hsz' hp.1.size, hp.2⟩
  | goto t => exact ⟨fq, conv hp.1, hfq, Nat.le_trans hsz' hp.1.size, hp.2⟩
  | panic ch => exact hp.elim
  | outgrown => exact hp.elim

/-- The world under a name. -/
theorem wpIn_world {F : Fence} {n : Nat} {c : Code} (h : ∀ W, W = w → c.wpIn F n P Q a W) : c.wpIn F n P Q a w := h w rfl
theorem wp_world {c : Code} (h : ∀ W, W = w → c.wp P Q a W) : c.wp P Q a w := h w rfl

/-- A function that holds one range over a function leaves. -/
theorem leaveM1 {fn : Func} {tmps : Array Value} {R : Ending → World → Prop} {D : Nat} {W : World} {v : Value} (hk : W.heap[D]? = some (.deferred (some []))) 
    (hr : (results fn tmps).run P (W.putObj D (.deferred none)) = .ok v (W.putObj D (.deferred none))) (hR : R (.returned v) (W.putObj D (.deferred none))) :
    LeavesInM Fence.wide 0 P fn tmps R [{ target := .collected D, args := #[] }] .returning W :=
  ⟨by simp, .inl ⟨_, _, rfl, run_takeDeferred hk, ⟨v, hr, hR⟩⟩⟩
theorem ext_put {A B : World} {D : Nat} {o : Obj} (h : Below A.heap.size A B) (hD : A.heap.size ≤ D) : Below A.heap.size A (B.putObj D o) :=
  h.trans ⟨rfl, rfl, rfl, by simp, fun k hk => World.putObj_heap_other (by omega)⟩
@[go_sem] theorem cell_put (W : World) (D n i : Nat) (c : Option (List Deferred)) (h : n ≠ D) : (W.putObj D (.deferred c)).cell? ⟨n, i, none⟩ = W.cell? ⟨n, i, none⟩ :=
  World.cell?_of_block (w := W) (World.putObj_heap_other h)
end Go.Proofs.Ytggcmnjllkncaaa
