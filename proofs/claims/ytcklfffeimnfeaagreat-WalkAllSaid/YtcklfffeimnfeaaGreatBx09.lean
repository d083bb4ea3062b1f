/- Texts merged into one: RangeT, RoundQuiet, EdgeKey, RefKey, RefOf. -/
import Derived.Test.YtcklfffeimnfeaaGreatBx00
import Derived.Sort.QuietIn
import Derived.Test.YtcklfffeimnfeaaGreatBx08
import Derived.Test.YtcklfffeimnfeaaGreatProg
import Derived.Test.YtcklfffeimnfeaaGreatChecked
import Derived.Handy
import Derived.Laws.Concat
import Derived.Lib.ConvBytes
import Derived.RegionIn
import Derived.Scope
import Derived.Laws.Externs
import Derived.Laws.Strings3
set_option maxRecDepth 100000
set_option maxHeartbeats 12800000
set_option linter.unusedSimpArgs false
set_option linter.unusedVariables false
namespace Go.Proofs.YtcklfffeimnfeaaGreat
open Go.RowKit

/-- A part's step forward; the blocks tp are handed over to it. -/
structure FwdT (fp tp fp' : Nat → Prop) (W W' : World) : Prop where
  only : Only fp W W'
  own : ∀ k, fp' k → (fp k ∨ tp k ∨ W.heap.size ≤ k) ∧ k < W'.heap.size
theorem FwdT.const {fp tp : Nat → Prop} {W W' : World} (h : Only fp W W') (hf : ∀ k, fp k → k < W.heap.size) : FwdT fp tp fp W W' :=
  ⟨h, fun k hk => ⟨.inl hk, Nat.lt_of_lt_of_le (hf k hk) h.size⟩⟩
theorem Fwd.toT {fp tp fp' : Nat → Prop} {W W' : World} (h : Fwd fp fp' W W') : FwdT fp tp fp' W W' :=
  ⟨h.only, fun k hk => ⟨(h.own k hk).1.elim .inl (fun h => .inr (.inr h)), (h.own k hk).2⟩⟩

/-- how an iterator ends -/
def IterEnd {α : Type} (fp It : Nat → Prop) (ok S : List α → Prop) (J Jx : List α → (Nat → Prop) → World → Prop) (W : World) (e : Ending) (W' : World) : Prop :=
  (∃ v, e = .returned v) ∧ ∃ xs fp', Only (fun k => fp k ∨ It k) W W' ∧ (∀ k, fp' k → (fp k ∨ W.heap.size ≤ k) ∧ k < W'.heap.size) ∧ ((S xs ∧ J xs fp' W') ∨ (ok xs ∧ Jx xs fp' W'))
theorem IterEnd.mk {α : Type} {fp It : Nat → Prop} {ok S : List α → Prop} {J Jx : List α → (Nat → Prop) → World → Prop} {W : World} {v : Value} {W' : World} (xs : List α) (fp' : Nat → Prop) (h1 : Only (fun k => fp k ∨ It k) W W')
    (h2 : ∀ k, fp' k → (fp k ∨ W.heap.size ≤ k) ∧ k < W'.heap.size) (h3 : (S xs ∧ J xs fp' W') ∨ (ok xs ∧ Jx xs fp' W')) : IterEnd fp It ok S J Jx W (.returned v) W' := ⟨⟨v, rfl⟩, xs, fp', h1, h2, h3⟩

/-- **THE ITERATOR's CONTRACT, elements with blocks of their own.** 'R pre x tp W': what holds of an element as it comes; its blocks tp (laid since the iterator began) are the caller's from there on. -/
def IterT {α : Type} (P : Program) (g : Nat) (lb : Array Value) (encs : α → Array Value) (ok S Bd : List α → Prop) (R : List α → α → (Nat → Prop) → World → Prop) (Pre : World → Prop) (Rs It : Nat → Prop) : Prop :=
  ∀ (l : Nat) (J Jx : List α → (Nat → Prop) → World → Prop) (fp : Nat → Prop) (W : World), Pre W → (∀ k, fp k → k < W.heap.size ∧ ¬ Rs k) →
    (∀ pre fp A B, J pre fp A → Stays fp A B → J pre fp B) → (∀ pre fp A B, Jx pre fp A → Stays fp A B → Jx pre fp B) →
    (∀ pre fp A, J pre fp A → Bd pre) →
    (∀ pre fq tp x W1, J pre fq W1 → (∀ k, fq k → k < W1.heap.size) → (∀ k, tp k → W.heap.size ≤ k ∧ k < W1.heap.size ∧ ¬ fq k) → Only (fun k => fp k ∨ It k) W W1 → ok (pre ++ [x]) → R pre x tp W1 →
      YieldAt Fence.wide 0 P l (encs x) W1 fun e W' =>
        ∃ fp', FwdT fq tp fp' W1 W' ∧ ((e = .returned (.bool true) ∧ J (pre ++ [x]) fp' W') ∨ (e = .returned (.bool false) ∧ Jx (pre ++ [x]) fp' W'))) →
    J [] fp W →
    CallsIn Fence.wide 0 P g (#[.func (.yield l) #[] #[]] ++ lb) W (IterEnd fp It ok S J Jx W)

theorem Fwd.wide {fp gp fp' : Nat → Prop} {W W' : World} (h : Fwd (fun k => fp k ∨ gp k) fp' W W') (ho : ∀ k, fp' k → fp k ∨ W.heap.size ≤ k) : Only (fun k => fp k ∨ gp k) W W' ∧ (∀ k, fp' k → (fp k ∨ W.heap.size ≤ k) ∧ k < W'.heap.size) :=
  ⟨h.only, fun k hk => ⟨ho k hk, (h.own k hk).2⟩⟩
/-- an iterator that hands nothing over -/
theorem IterR.toT {α : Type} {P : Program} {g : Nat} {lb : Array Value} {encs : α → Array Value} {ok S Bd : List α → Prop} {R : List α → α → World → Prop} {Pre : World → Prop} {Rs It : Nat → Prop} (h : IterR P g lb encs ok S Bd R Pre Rs It) :
    IterT P g lb encs ok S Bd (fun pre x tp W => (∀ k, ¬ tp k) ∧ R pre x W) Pre Rs It := by
  intro l J Jx fp W hp hf hJ hJx hB hY h0
  refine (h l J Jx fp W hp hf hJ hJx hB (fun pre fq x W1 hj hq ho hok hR => ?_) h0).mono ?_
  · obtain ⟨fn, tmps, assign, body, hy, hr⟩ := hY pre fq (fun _ => False) x W1 hj hq (fun k hk => hk.elim) ho hok ⟨fun _ h => h, hR⟩
    refine ⟨fn, tmps, assign, body, hy, hr.mono ?_⟩
    rintro e W' ⟨fp', hf, h⟩
    exact ⟨fp', ⟨hf.only, fun k hk => ⟨(hf.own k hk).1.elim .inl (fun h => h.elim False.elim .inr), (hf.own k hk).2⟩⟩, h⟩
  · rintro e W' ⟨⟨v, rfl⟩, xs, fp', h1, h2, h3⟩
    exact IterEnd.mk xs fp' h1.only (fun k hk => ⟨h2 k hk, (h1.own k hk).2⟩) h3

/-- How a round may be left. -/
def roundEndT {α : Type} (fp tp : Nat → Prop) (W : World) (I : List α → (Nat → Prop) → World → Prop) (Ix : Code → List α → (Nat → Prop) → World → Prop) (xs : List α) : Exit → Act → World → Prop
  | .normal, _, W' => ∃ fp', FwdT fp tp fp' W W' ∧ I xs fp' W'
  | .ret, _, W' => ∃ fp', FwdT fp tp fp' W W' ∧ Ix .ret xs fp' W'
  | .exit id, _, W' => ∃ fp', FwdT fp tp fp' W W' ∧ Ix (.exit id) xs fp' W'
  | .goto t, _, W' => ∃ fp', FwdT fp tp fp' W W' ∧ Ix (.goto t) xs fp' W'
  | .panic _, _, _ => False
  | .outgrown, _, _ => False

variable {P : Program} {α : Type} {g : Operand} {ps : Array Tmp} {assign body : Code} {Q : Exit → Act → World → Prop} {a : Act} {w : World}

/-- ONE ROUND, its record among the caller's blocks. -/
theorem round_lawT {encs : α → Array Value} (I : List α → (Nat → Prop) → World → Prop) (Ix : Code → List α → (Nat → Prop) → World → Prop)
    (hI : ∀ pre fp A B, I pre fp A → Stays fp A B → I pre fp B) (hIx : ∀ c pre fp A B, Ix c pre fp A → Stays fp A B → Ix c pre fp B)
    (Ax : List α → α → Act → World → Prop) (hAx : ∀ pre x a' A l r r', A.heap[l]? = some (.loop r) → Ax pre x a' A → Ax pre x a' (A.putObj l (.loop r')))
    (l : Nat) (fn : FuncId) (dn : Nat) (hps : ∀ x, (encs x).size = ps.size)
    (pre : List α) (fp tp : Nat → Prop) (x : α) (W : World) (hi : I pre fp W) (hfp : ∀ k, fp k → k < W.heap.size) (hnl : ¬ fp l) (hnt : ¬ tp l)
    (hl : W.heap[l]? = some (.loop { state := .ready, pending := none, fn, tmps := a.tmps, params := ps, assign, body, defers := dn }))
    (hassign : ∀ (K : Act → World → Prop), (∀ a' W', Only (fun _ => False) W W' → Ax pre x a' W' → K a' W') →
      assign.wpIn (Fence.wide.inRound l) 0 P (Exit.then K (fun _ _ _ => False)) { tmps := (ps.zip (encs x)).foldl (fun t (p, v) => t.setIfInBounds p v) a.tmps, defers := [] } W)
    (hbody : ∀ (a' : Act) (W' : World), W.heap.size ≤ W'.heap.size → (∃ r, W'.heap[l]? = some (.loop r)) → I pre fp W' → Ax pre x a' W' → Only (fun k => k = l) W W' →
      body.wpIn (Fence.wide.inRound l) 0 P (roundEndT fp tp W' I Ix (pre ++ [x])) a' W') :
    YieldAt Fence.wide 0 P l (encs x) W fun e W' =>
      ∃ fp', FwdT (fun k => fp k ∨ k = l) tp (fun k => fp' k ∨ k = l) W W' ∧ ¬ fp' l ∧
      ((e = .returned (.bool true) ∧ I (pre ++ [x]) fp' W' ∧ W'.heap[l]? = some (.loop { state := .ready, pending := none, fn, tmps := a.tmps, params := ps, assign, body, defers := dn })) ∨
       (e = .returned (.bool false) ∧ ∃ c, Ix c (pre ++ [x]) fp' W' ∧ W'.heap[l]? = some (.loop { state := .done, pending := some c, fn, tmps := a.tmps, params := ps, assign, body, defers := dn }))) := by
  obtain ⟨rec, hrec⟩ : ∃ rec : LoopState → Option Code → Loop, rec = fun st pe => { state := st, pending := pe, fn, tmps := a.tmps, params := ps, assign, body, defers := dn } := ⟨_, rfl⟩
  have hr1 : ∀ st pe, ({ state := st, pending := pe, fn, tmps := a.tmps, params := ps, assign, body, defers := dn } : Loop) = rec st pe := fun st pe => by rw [hrec]
  simp only [hr1] at hl ⊢
  have hlt : l < W.heap.size := (Array.getElem?_eq_some_iff.1 hl).1
  have hy := run_yield (P := P) (args := encs x) hl (by rw [hrec]; exact hps x)
  rw [hrec] at hy
  refine ⟨fn, _, assign, body, hy, roundIn_of_wpIn trivial (hassign _ ?_)⟩
  clear hy
  intro a' Wa honly hax
  have hl' : Wa.heap[l]? = some (.loop (rec .ready none)) := (honly.same l hlt (fun h => h)).trans hl
  have hlta : l < Wa.heap.size := (Array.getElem?_eq_some_iff.1 hl').1
  refine ⟨_, run_beginRound hl' (by rw [hrec]), ?_⟩
  have hl2 : (Wa.putObj l (.loop { rec .ready none with state := .busy })).heap[l]? = some (.loop { rec .ready none with state := .busy }) := World.putObj_heap_same hlta
  have ho2 : Only (fun k => k = l) W (Wa.putObj l (.loop { rec .ready none with state := .busy })) := (honly.mono (fun _ _ e => e.elim)).putObj _ (fun _ => rfl)
  have hi2 : I pre fp (Wa.putObj l (.loop { rec .ready none with state := .busy })) :=
    hI _ _ _ _ hi (ho2.stays (fun k hk => ⟨hfp k hk, fun e => hnl (e ▸ hk)⟩))
  have hsz2 : W.heap.size ≤ (Wa.putObj l (.loop { rec .ready none with state := .busy })).heap.size := ho2.size
  refine wpIn_mono (hbody a' _ hsz2 ⟨_, hl2⟩ hi2 (hAx _ _ _ _ _ _ _ hl' hax) ho2) ?_
  generalize hWb : Wa.putObj l (.loop { rec .ready none with state := .busy }) = Wb at hl2 ho2 hi2 hsz2 ⊢
  have fin : ∀ (jump : Option Code) (fp' : Nat → Prop) (W3 : World), FwdT fp tp fp' Wb W3 →
      (Instr.endRound l jump).run P W3 = .ok (.bool jump.isNone) (W3.putObj l (.loop (rec (if jump.isNone then .ready else .done) jump))) ∧
      (W3.putObj l (.loop (rec (if jump.isNone then .ready else .done) jump))).heap[l]? = some (.loop (rec (if jump.isNone then .ready else .done) jump)) ∧
      ¬ fp' l ∧ Stays fp' W3 (W3.putObj l (.loop (rec (if jump.isNone then .ready else .done) jump))) ∧
      FwdT (fun k => fp k ∨ k = l) tp (fun k => fp' k ∨ k = l) W (W3.putObj l (.loop (rec (if jump.isNone then .ready else .done) jump))) := fun jump fp' W3 hf => by
    have hltb : l < Wb.heap.size := (Array.getElem?_eq_some_iff.1 hl2).1
    have hl3 : W3.heap[l]? = some (.loop { rec .ready none with state := .busy }) := (hf.only.same l hltb hnl).trans hl2
    have hn : ¬ fp' l := fun h => (hf.own l h).1.elim hnl (fun h => h.elim hnt (fun h => by omega))
    have := run_endRound (P := P) jump hl3
    rw [hrec] at this ⊢
    refine ⟨this, World.putObj_heap_same (Array.getElem?_eq_some_iff.1 hl3).1, hn, ⟨rfl, rfl, rfl, by simp, fun k hk => World.putObj_heap_other (fun e => hn (e ▸ hk))⟩, ?_, ?_⟩
    · exact ((ho2.mono (fp' := fun k => fp k ∨ k = l) (fun _ _ e => .inr e)).trans hf.only (fun i _ h => .inl h)).putObj _ (fun _ => .inr rfl)
    · intro k hk
      have hs3 : W3.heap.size = (W3.putObj l (.loop { state := if jump.isNone then .ready else .done, pending := jump, fn, tmps := a.tmps, params := ps, assign, body, defers := dn })).heap.size := by simp
      rw [← hs3]
      rcases hk with hk | rfl
      · obtain ⟨h1, h2⟩ := hf.own k hk
        exact ⟨h1.elim (fun h => .inl (.inl h)) (fun h => .inr (h.imp id (fun h => by omega))), h2⟩
      · exact ⟨.inl (.inr rfl), (Array.getElem?_eq_some_iff.1 hl3).1⟩
  rintro e a3 W3 hp
  cases e with
  | normal =>
    obtain ⟨fp', hf, hi3⟩ := hp
    obtain ⟨hr, hl4, hn, hst, hfw⟩ := fin none fp' W3 hf
    exact ⟨_, _, hr, fp', hfw, hn, .inl ⟨rfl, hI _ _ _ _ hi3 hst, hl4⟩⟩
  | ret =>
    obtain ⟨fp', hf, hi3⟩ := hp
    obtain ⟨hr, hl4, hn, hst, hfw⟩ := fin (some .ret) fp' W3 hf
    exact ⟨_, _, hr, fp', hfw, hn, .inr ⟨rfl, .ret, hIx _ _ _ _ _ hi3 hst, hl4⟩⟩
  | exit id =>
    obtain ⟨fp', hf, hi3⟩ := hp
    obtain ⟨hr, hl4, hn, hst, hfw⟩ := fin (some (.exit id)) fp' W3 hf
    exact ⟨_, _, hr, fp', hfw, hn, .inr ⟨rfl, .exit id, hIx _ _ _ _ _ hi3 hst, hl4⟩⟩
  | goto t =>
    obtain ⟨fp', hf, hi3⟩ := hp
    obtain ⟨hr, hl4, hn, hst, hfw⟩ := fin (some (.goto t)) fp' W3 hf
    exact ⟨_, _, hr, fp', hfw, hn, .inr ⟨rfl, .goto t, hIx _ _ _ _ _ hi3 hst, hl4⟩⟩
  | panic ch => exact hp.elim
  | outgrown => exact hp.elim

/-- **THE STATEMENT, outside every round.** -/
theorem wpIn_rangeT {gf : Nat} {lb : Array Value} (hg : a.eval g = .func (.func gf) #[] lb) (eg : ∀ args w, (callFunc gf args).run P w = .ok (.enter gf args) w)
    {encs : α → Array Value} {ok S Bd : List α → Prop} {R : List α → α → (Nat → Prop) → World → Prop} {Pre : World → Prop} {Rs It : Nat → Prop} (hit : IterT P gf lb encs ok S Bd R Pre Rs It)
    (hps : ∀ x, (encs x).size = ps.size)
    (fp0 : Nat → Prop) (hfp : ∀ k, fp0 k → k < w.heap.size ∧ ¬ Rs k) (hItb : ∀ k, Rs k → k < w.heap.size) (hIt : ∀ k, It k → k < w.heap.size)
    (I : List α → (Nat → Prop) → World → Prop) (Ix : Code → List α → (Nat → Prop) → World → Prop)
    (hI : ∀ pre fp A B, I pre fp A → Stays fp A B → I pre fp B) (hIx : ∀ c pre fp A B, Ix c pre fp A → Stays fp A B → Ix c pre fp B)
    (hBd : ∀ pre fp A, I pre fp A → Bd pre)
    (Ax : List α → α → Act → World → Prop) (hAx : ∀ pre x a' A l r r', A.heap[l]? = some (.loop r) → Ax pre x a' A → Ax pre x a' (A.putObj l (.loop r')))
    (hPre : ∀ W, Below w.heap.size w W → Pre W) (h0 : I [] fp0 w)
    (hassign : ∀ (l : Nat) (pre : List α) (fp tp : Nat → Prop) (x : α) (W : World) (K : Act → World → Prop), w.heap.size ≤ W.heap.size → Only (fun k => fp0 k ∨ It k) w W → ok (pre ++ [x]) → R pre x tp W → I pre fp W →
      (∀ a' W', Only (fun _ => False) W W' → Ax pre x a' W' → K a' W') →
      assign.wpIn (Fence.wide.inRound l) 0 P (Exit.then K (fun _ _ _ => False)) { tmps := (ps.zip (encs x)).foldl (fun t (p, v) => t.setIfInBounds p v) a.tmps, defers := [] } W)
    (hbody : ∀ (l : Nat) (pre : List α) (fp tp : Nat → Prop) (x : α) (a' : Act) (W W0 : World), w.heap.size ≤ l → (∃ r, W.heap[l]? = some (.loop r)) → Only (fun k => fp0 k ∨ It k) w W → ok (pre ++ [x]) → R pre x tp W0 → Only (fun k => k = l) W0 W → ¬ fp l →
      (∀ k, fp k → k < W.heap.size) → (∀ k, tp k → w.heap.size ≤ k ∧ k < W0.heap.size ∧ ¬ fp k ∧ k ≠ l) → I pre fp W → Ax pre x a' W → w.heap.size ≤ W.heap.size →
      body.wpIn (Fence.wide.inRound l) 0 P (roundEndT fp tp W I Ix (pre ++ [x])) a' W)
    (hdone : ∀ (D : Nat) (xs : List α) (fp' : Nat → Prop) (W : World), w.heap.size ≤ D → S xs → I xs fp' W → Only (fun k => fp0 k ∨ It k) w W → (∀ k, fp' k → fp0 k ∨ w.heap.size ≤ k) → (∀ k, fp' k → k < W.heap.size) → ¬ fp' D → W.heap[D]? = some (.deferred (some [])) →
      Q .normal { a with defers := { target := .collected D, args := #[] } :: a.defers } W)
    (hstop : ∀ (D : Nat) (c : Code) (xs : List α) (fp' : Nat → Prop) (W : World), w.heap.size ≤ D → ok xs → Ix c xs fp' W → Only (fun k => fp0 k ∨ It k) w W → (∀ k, fp' k → fp0 k ∨ w.heap.size ≤ k) → (∀ k, fp' k → k < W.heap.size) → ¬ fp' D → W.heap[D]? = some (.deferred (some [])) →
      c.wpIn Fence.wide 0 P Q { a with defers := { target := .collected D, args := #[] } :: a.defers } W) :
    (Code.rangeFunc g ps assign body).wpIn Fence.wide 0 P Q a w := by
  refine wpIn_rangeFunc ?_
  intro fn _
  obtain ⟨rec, hrec⟩ : ∃ rec : LoopState → Option Code → Loop, rec = fun st pe => { state := st, pending := pe, fn, tmps := a.tmps, params := ps, assign, body, defers := w.heap.size } := ⟨_, rfl⟩
  obtain ⟨W1, hW1⟩ : ∃ W1, (w.alloc (.deferred (some []))).alloc (.loop (rec .ready none)) = W1 := ⟨_, rfl⟩
  have hL1 : W1.heap[w.heap.size + 1]? = some (.loop (rec .ready none)) := by
    rw [← hW1]; have := World.alloc_heap_new (w.alloc (.deferred (some []))) (.loop (rec .ready none)); rwa [World.size_alloc] at this
  have hK1 : W1.heap[w.heap.size]? = some (.deferred (some [])) := by
    rw [← hW1]; exact (Below.heap_alloc _ _ _ (by simp)).trans (World.alloc_heap_new w _)
  have hsz1 : W1.heap.size = w.heap.size + 2 := by rw [← hW1]; simp
  have hb1 : Below w.heap.size w W1 := by rw [← hW1]; exact (ext_alloc w _).trans ((Below.refl _ _).alloc (by simp) _)
  have hI1 : I [] fp0 W1 := hI _ _ _ _ h0 ⟨hb1.os, hb1.tape, hb1.output, hb1.size, fun k hk => hb1.block k (hfp k hk).1⟩
  refine ⟨w.heap.size + 1, [{ target := .collected w.heap.size, args := #[] }], W1, { target := .fn (.func gf) lb, args := #[.func (.yield (w.heap.size + 1)) #[] #[]] }, W1, gf,
    #[.func (.yield (w.heap.size + 1)) #[] #[]] ++ lb, W1, ?_, ?_, fun _ _ => trivial, ?_, fun h => by simp [Fence.wide] at h, ?_⟩
  · rw [← hW1, hrec]; exact run_enterLoop_outer _ _ _ _ _
  · simp only [resolve, hg]
    simp [go_sem]
  · simp [invoke, go_sem, eg]
  · have spl : ∀ {fp : Nat → Prop} {A B : World}, Stays (fun k => fp k ∨ k = w.heap.size + 1 ∨ k = w.heap.size) A B → Stays fp A B ∧ B.heap[w.heap.size + 1]? = A.heap[w.heap.size + 1]? ∧ B.heap[w.heap.size]? = A.heap[w.heap.size]? :=
      fun h => ⟨h.mono fun k hk => .inl hk, h.same _ (.inr (.inl rfl)), h.same _ (.inr (.inr rfl))⟩
    have hitf : ∀ k, (fp0 k ∨ k = w.heap.size + 1 ∨ k = w.heap.size) → k < W1.heap.size ∧ ¬ Rs k := by
      rintro k (hk | rfl | rfl)
      · exact ⟨by have := (hfp k hk).1; omega, (hfp k hk).2⟩
      · exact ⟨by omega, fun h => by have := hItb _ h; omega⟩
      · exact ⟨by omega, fun h => by have := hItb _ h; omega⟩
    refine (hit (w.heap.size + 1)
      (fun pre fpp W => ∃ fp, (∀ k, fpp k ↔ (fp k ∨ k = w.heap.size + 1 ∨ k = w.heap.size)) ∧ ¬ fp (w.heap.size + 1) ∧ ¬ fp w.heap.size ∧ I pre fp W ∧ W.heap[w.heap.size + 1]? = some (.loop (rec .ready none)) ∧ W.heap[w.heap.size]? = some (.deferred (some [])) ∧ w.heap.size ≤ W.heap.size)
      (fun pre fpp W => ∃ fp, (∀ k, fpp k ↔ (fp k ∨ k = w.heap.size + 1 ∨ k = w.heap.size)) ∧ ¬ fp (w.heap.size + 1) ∧ ¬ fp w.heap.size ∧ (∃ c, Ix c pre fp W ∧ W.heap[w.heap.size + 1]? = some (.loop (rec .done (some c)))) ∧ W.heap[w.heap.size]? = some (.deferred (some [])))
      (fun k => fp0 k ∨ k = w.heap.size + 1 ∨ k = w.heap.size) W1 (hPre W1 hb1) hitf ?_ ?_ ?_ ?_
      ⟨fp0, fun _ => Iff.rfl, fun h => by have := (hfp _ h).1; omega, fun h => by have := (hfp _ h).1; omega, hI1, hL1, hK1, by omega⟩).mono ?_
    · rintro pre fpp A B ⟨fp, hf, hn1, hn2, hi, hl, hk, hs⟩ hst
      obtain ⟨s1, s2, s3⟩ := spl (fp := fp) (hst.mono fun k hk => (hf k).2 hk)
      exact ⟨fp, hf, hn1, hn2, hI _ _ _ _ hi s1, s2.trans hl, s3.trans hk, Nat.le_trans hs hst.size⟩
    · rintro pre fpp A B ⟨fp, hf, hn1, hn2, ⟨c, hi, hl⟩, hk⟩ hst
      obtain ⟨s1, s2, s3⟩ := spl (fp := fp) (hst.mono fun k hk => (hf k).2 hk)
      exact ⟨fp, hf, hn1, hn2, ⟨c, hIx _ _ _ _ _ hi s1, s2.trans hl⟩, s3.trans hk⟩
    · rintro pre fpp A ⟨fp, _, _, _, hi, _⟩
      exact hBd _ _ _ hi
    · rintro pre fpp tp x W ⟨fp, hf, hn1, hn2, hi, hl, hk, hs⟩ hlt htp honl hok hR
      have hov : Only (fun k => fp0 k ∨ It k) w W := by
        refine (Only.of_below (fp := fun k => fp0 k ∨ It k) hb1).trans honl ?_
        rintro i hi ((h | h | h) | h)
        · exact .inl h
        · omega
        · omega
        · exact .inr h
      rw [hrec] at hl
      have hfp' : ∀ k, fp k → k < W.heap.size := fun k h => hlt k ((hf k).2 (.inl h))
      have ht1 : ¬ tp (w.heap.size + 1) := fun h => (htp _ h).2.2 ((hf _).2 (.inr (.inl rfl)))
      have ht2 : ¬ tp w.heap.size := fun h => (htp _ h).2.2 ((hf _).2 (.inr (.inr rfl)))
      obtain ⟨fn', tmps', assign', body', hy, hro⟩ := round_lawT (P := P) I Ix hI hIx Ax hAx (w.heap.size + 1) fn w.heap.size hps pre fp tp x W hi hfp' hn1 ht1 hl
        (fun K hK => hassign _ pre fp tp x W K hs hov hok hR hi hK)
        (fun a' W' hsz hr hi' hax ho => hbody _ pre fp tp x a' W' W (by omega) hr (hov.trans ho (fun i hi e => by omega)) hok hR ho hn1 (fun k hk => by have := hfp' k hk; omega)
          (fun k hk => ⟨by have := (htp k hk).1; omega, (htp k hk).2.1, fun h => (htp k hk).2.2 ((hf k).2 (.inl h)), fun e => ht1 (e ▸ hk)⟩) hi' hax (by omega))
      refine ⟨fn', tmps', assign', body', hy, hro.mono ?_⟩
      rintro e W' ⟨fp', hfw, hn', hor⟩
      have hkd : W'.heap[w.heap.size]? = some (.deferred (some [])) :=
        (hfw.only.same _ (Array.getElem?_eq_some_iff.1 hk).1 (fun h => h.elim hn2 (fun h => by omega))).trans hk
      have hnd : ¬ fp' w.heap.size := fun h => (hfw.own _ (.inl h)).1.elim (fun h => h.elim hn2 (fun h => by omega)) (fun h => h.elim ht2 (fun h => by have := (Array.getElem?_eq_some_iff.1 hk).1; omega))
      refine ⟨fun k => fp' k ∨ k = w.heap.size + 1 ∨ k = w.heap.size, ⟨hfw.only.mono ?_, ?_⟩, ?_⟩
      · rintro k _ (h | h)
        · exact (hf k).2 (.inl h)
        · exact (hf k).2 (.inr (.inl h))
      · rintro k (h | h | h)
        · obtain ⟨h1, h2⟩ := hfw.own k (.inl h)
          exact ⟨h1.elim (fun h => .inl ((hf k).2 (h.elim .inl (fun h => .inr (.inl h))))) .inr, h2⟩
        · exact ⟨.inl ((hf k).2 (.inr (.inl h))), by subst h; exact (hfw.own _ (.inr rfl)).2⟩
        · exact ⟨.inl ((hf k).2 (.inr (.inr h))), by subst h; exact (Array.getElem?_eq_some_iff.1 hkd).1⟩
      · rcases hor with ⟨rfl, hi', hl'⟩ | ⟨rfl, c, hi', hl'⟩
        · exact .inl ⟨rfl, fp', fun _ => Iff.rfl, hn', hnd, hi', by rw [hrec]; exact hl', hkd, Nat.le_trans hs hfw.only.size⟩
        · exact .inr ⟨rfl, fp', fun _ => Iff.rfl, hn', hnd, ⟨c, hi', by rw [hrec]; exact hl'⟩, hkd⟩
    · have hfin : ∀ (W2 : World) (r' : Loop), Only (fun k => (fp0 k ∨ k = w.heap.size + 1 ∨ k = w.heap.size) ∨ It k) W1 W2 → W2.heap[w.heap.size]? = some (.deferred (some [])) →
          Only (fun k => fp0 k ∨ It k) w (W2.putObj (w.heap.size + 1) (.loop r')) ∧ (W2.putObj (w.heap.size + 1) (.loop r')).heap[w.heap.size]? = some (.deferred (some [])) := fun W2 r' hf hk => by
        refine ⟨?_, (World.putObj_heap_other (by omega)).trans hk⟩
        refine ((Only.of_below (fp := fun k => fp0 k ∨ It k) hb1).trans (fp' := fun k => (fp0 k ∨ k = w.heap.size + 1 ∨ k = w.heap.size) ∨ It k) hf ?_).putObj _ (fun h => by omega)
        rintro i hi ((h | h | h) | h)
        · exact .inl h
        · omega
        · omega
        · exact .inr h
      rintro e W2 ⟨⟨v, rfl⟩, xs, fpp, hfw, hfo, (⟨hS, fp', hf, hn1, hn2, hi, hl, hk, _⟩ | ⟨hS, fp', hf, hn1, hn2, ⟨c, hi, hl⟩, hk⟩)⟩
      · obtain ⟨ho, hk2⟩ := hfin W2 { rec .ready none with state := .exhausted } hfw hk
        have hrn := run_endLoop (P := P) hl (by rw [hrec]; simp)
        refine ⟨none, _, by rw [hrec] at hrn; exact hrn, ?_⟩
        refine hdone _ xs fp' _ (Nat.le_refl _) hS (hI _ _ _ _ hi ⟨rfl, rfl, rfl, by simp, fun k hk => World.putObj_heap_other (fun e => hn1 (e ▸ hk))⟩) (by rw [hrec] at ho; exact ho) ?_ ?_ hn2 (by rw [hrec] at hk2; exact hk2)
        · intro k hk'
          rcases (hfo k ((hf k).2 (.inl hk'))).1 with (h | h | h) | h
          · exact .inl h
          · exact absurd (h ▸ hk') hn1
          · exact absurd (h ▸ hk') hn2
          · exact .inr (by omega)
        · intro k hk'; simpa using (hfo k ((hf k).2 (.inl hk'))).2
      · obtain ⟨ho, hk2⟩ := hfin W2 { rec .done (some c) with state := .exhausted } hfw hk
        have hrn := run_endLoop (P := P) hl (by rw [hrec]; simp)
        refine ⟨some c, _, by rw [hrec] at hrn; exact hrn, ?_⟩
        refine hstop _ c xs fp' _ (Nat.le_refl _) hS (hIx _ _ _ _ _ hi ⟨rfl, rfl, rfl, by simp, fun k hk => World.putObj_heap_other (fun e => hn1 (e ▸ hk))⟩) (by rw [hrec] at ho; exact ho) ?_ ?_ hn2 (by rw [hrec] at hk2; exact hk2)
        · intro k hk'
          rcases (hfo k ((hf k).2 (.inl hk'))).1 with (h | h | h) | h
          · exact .inl h
          · exact absurd (h ▸ hk') hn1
          · exact absurd (h ▸ hk') hn2
          · exact .inr (by omega)
        · intro k hk'; simpa using (hfo k ((hf k).2 (.inl hk'))).2
/-- **THE STATEMENT, the loop's variables in slots; the caller's blocks move.** -/
theorem wpIn_rangeTS {gf : Nat} {lb : Array Value} (hg : a.eval g = .func (.func gf) #[] lb) (eg : ∀ args w, (callFunc gf args).run P w = .ok (.enter gf args) w)
    {encs : α → Array Value} {ok S Bd : List α → Prop} {R : List α → α → (Nat → Prop) → World → Prop} {Pre : World → Prop} {Rs It : Nat → Prop} (hit : IterT P gf lb encs ok S Bd R Pre Rs It)
    (hps : ∀ x, (encs x).size = ps.size)
    (fp0 : Nat → Prop) (hfp : ∀ k, fp0 k → k < w.heap.size ∧ ¬ Rs k) (hItb : ∀ k, Rs k → k < w.heap.size) (hIt : ∀ k, It k → k < w.heap.size)
    (I : List α → (Nat → Prop) → World → Prop) (Ix : Code → List α → (Nat → Prop) → World → Prop)
    (hI : ∀ pre fp A B, I pre fp A → Stays fp A B → I pre fp B) (hIx : ∀ c pre fp A B, Ix c pre fp A → Stays fp A B → Ix c pre fp B)
    (hBd : ∀ pre fp A, I pre fp A → Bd pre)
    (hPre : ∀ W, Below w.heap.size w W → Pre W) (h0 : I [] fp0 w) (sets : List (Nat × (α → Value)))
    (hassign : ∀ (l : Nat) (x : α) (W : World) (K : Act → World → Prop), K { tmps := sets.foldl (fun t p => t.setIfInBounds p.1 (p.2 x)) a.tmps, defers := [] } W →
      assign.wpIn (Fence.wide.inRound l) 0 P (Exit.then K (fun _ _ _ => False)) { tmps := (ps.zip (encs x)).foldl (fun t (p, v) => t.setIfInBounds p v) a.tmps, defers := [] } W)
    (hbody : ∀ (l : Nat) (pre : List α) (fp tp : Nat → Prop) (x : α) (W W0 : World), w.heap.size ≤ l → (∃ r, W.heap[l]? = some (.loop r)) → Only (fun k => fp0 k ∨ It k) w W → ok (pre ++ [x]) → R pre x tp W0 → Only (fun k => k = l) W0 W → ¬ fp l →
      (∀ k, fp k → k < W.heap.size) → (∀ k, tp k → w.heap.size ≤ k ∧ k < W0.heap.size ∧ ¬ fp k ∧ k ≠ l) → I pre fp W → w.heap.size ≤ W.heap.size →
      body.wpIn (Fence.wide.inRound l) 0 P (roundEndT fp tp W I Ix (pre ++ [x])) { tmps := sets.foldl (fun t p => t.setIfInBounds p.1 (p.2 x)) a.tmps, defers := [] } W)
    (hdone : ∀ (D : Nat) (xs : List α) (fp' : Nat → Prop) (W : World), w.heap.size ≤ D → S xs → I xs fp' W → Only (fun k => fp0 k ∨ It k) w W → (∀ k, fp' k → fp0 k ∨ w.heap.size ≤ k) → (∀ k, fp' k → k < W.heap.size) → ¬ fp' D → W.heap[D]? = some (.deferred (some [])) →
      Q .normal { a with defers := { target := .collected D, args := #[] } :: a.defers } W)
    (hstop : ∀ (D : Nat) (c : Code) (xs : List α) (fp' : Nat → Prop) (W : World), w.heap.size ≤ D → ok xs → Ix c xs fp' W → Only (fun k => fp0 k ∨ It k) w W → (∀ k, fp' k → fp0 k ∨ w.heap.size ≤ k) → (∀ k, fp' k → k < W.heap.size) → ¬ fp' D → W.heap[D]? = some (.deferred (some [])) →
      c.wpIn Fence.wide 0 P Q { a with defers := { target := .collected D, args := #[] } :: a.defers } W) :
    (Code.rangeFunc g ps assign body).wpIn Fence.wide 0 P Q a w :=
  wpIn_rangeT (P := P) hg eg hit hps fp0 hfp hItb hIt I Ix hI hIx hBd (fun _ x a' _ => a' = { tmps := sets.foldl (fun t p => t.setIfInBounds p.1 (p.2 x)) a.tmps, defers := [] }) (fun _ _ _ _ _ _ _ _ h => h) hPre h0
    (fun l pre fq tp x W K _ _ _ _ _ hK => hassign l x W K (hK _ _ (Only.refl _ _) rfl))
    (fun l pre fp tp x a' W W0 h1 h2 h3 h4 h5 h6 h7 h8 h9 h10 hax h11 => by subst hax; exact hbody l pre fp tp x W W0 h1 h2 h3 h4 h5 h6 h7 h8 h9 h10 h11)
    hdone hstop
/-- **THE STATEMENT, one loop variable in a box (slot nb), the others in slots; the caller's blocks move.** -/
theorem wpIn_rangeTB {gf : Nat} {lb : Array Value} (hg : a.eval g = .func (.func gf) #[] lb) (eg : ∀ args w, (callFunc gf args).run P w = .ok (.enter gf args) w)
    {encs : α → Array Value} {ok S Bd : List α → Prop} {R : List α → α → (Nat → Prop) → World → Prop} {Pre : World → Prop} {Rs It : Nat → Prop} (hit : IterT P gf lb encs ok S Bd R Pre Rs It)
    (hps : ∀ x, (encs x).size = ps.size)
    (fp0 : Nat → Prop) (hfp : ∀ k, fp0 k → k < w.heap.size ∧ ¬ Rs k) (hItb : ∀ k, Rs k → k < w.heap.size) (hIt : ∀ k, It k → k < w.heap.size)
    (I : List α → (Nat → Prop) → World → Prop) (Ix : Code → List α → (Nat → Prop) → World → Prop)
    (hI : ∀ pre fp A B, I pre fp A → Stays fp A B → I pre fp B) (hIx : ∀ c pre fp A B, Ix c pre fp A → Stays fp A B → Ix c pre fp B)
    (hBd : ∀ pre fp A, I pre fp A → Bd pre)
    (hPre : ∀ W, Below w.heap.size w W → Pre W) (h0 : I [] fp0 w) (sets : List (Nat × (α → Value))) (nb : Nat) (bt : TypeId) (cf : α → Array Value)
    (hassign : ∀ (l : Nat) (x : α) (W : World) (K : Act → World → Prop), K { tmps := (sets.foldl (fun t p => t.setIfInBounds p.1 (p.2 x)) a.tmps).setIfInBounds nb (.pointer (some ⟨W.heap.size, 0, none⟩)), defers := [] } (W.alloc (.cells (cf x) bt)) →
      assign.wpIn (Fence.wide.inRound l) 0 P (Exit.then K (fun _ _ _ => False)) { tmps := (ps.zip (encs x)).foldl (fun t (p, v) => t.setIfInBounds p v) a.tmps, defers := [] } W)
    (hbody : ∀ (l : Nat) (pre : List α) (fp tp : Nat → Prop) (x : α) (W W0 : World) (q : Nat), W.heap[q]? = some (.cells (cf x) bt (0, 0)) → w.heap.size ≤ l → (∃ r, W.heap[l]? = some (.loop r)) → Only (fun k => fp0 k ∨ It k) w W → ok (pre ++ [x]) → R pre x tp W0 → Only (fun k => k = l) W0 W → ¬ fp l →
      (∀ k, fp k → k < W.heap.size) → (∀ k, tp k → w.heap.size ≤ k ∧ k < W0.heap.size ∧ ¬ fp k ∧ k ≠ l) → I pre fp W → w.heap.size ≤ W.heap.size →
      body.wpIn (Fence.wide.inRound l) 0 P (roundEndT fp tp W I Ix (pre ++ [x])) { tmps := (sets.foldl (fun t p => t.setIfInBounds p.1 (p.2 x)) a.tmps).setIfInBounds nb (.pointer (some ⟨q, 0, none⟩)), defers := [] } W)
    (hdone : ∀ (D : Nat) (xs : List α) (fp' : Nat → Prop) (W : World), w.heap.size ≤ D → S xs → I xs fp' W → Only (fun k => fp0 k ∨ It k) w W → (∀ k, fp' k → fp0 k ∨ w.heap.size ≤ k) → (∀ k, fp' k → k < W.heap.size) → ¬ fp' D → W.heap[D]? = some (.deferred (some [])) →
      Q .normal { a with defers := { target := .collected D, args := #[] } :: a.defers } W)
    (hstop : ∀ (D : Nat) (c : Code) (xs : List α) (fp' : Nat → Prop) (W : World), w.heap.size ≤ D → ok xs → Ix c xs fp' W → Only (fun k => fp0 k ∨ It k) w W → (∀ k, fp' k → fp0 k ∨ w.heap.size ≤ k) → (∀ k, fp' k → k < W.heap.size) → ¬ fp' D → W.heap[D]? = some (.deferred (some [])) →
      c.wpIn Fence.wide 0 P Q { a with defers := { target := .collected D, args := #[] } :: a.defers } W) :
    (Code.rangeFunc g ps assign body).wpIn Fence.wide 0 P Q a w :=
  wpIn_rangeT (P := P) hg eg hit hps fp0 hfp hItb hIt I Ix hI hIx hBd (fun _ x a' W => ∃ q, a' = { tmps := (sets.foldl (fun t p => t.setIfInBounds p.1 (p.2 x)) a.tmps).setIfInBounds nb (.pointer (some ⟨q, 0, none⟩)), defers := [] } ∧ W.heap[q]? = some (.cells (cf x) bt (0, 0)))
    (fun _ _ _ A l r r' hl ⟨q, h1, h2⟩ => ⟨q, h1, (World.putObj_heap_other (fun e => by subst e; rw [hl] at h2; cases h2)).trans h2⟩) hPre h0
    (fun l pre fq tp x W K _ _ _ _ _ hK => hassign l x W K (hK _ _ ((Only.refl _ _).alloc _) ⟨_, rfl, heap_alloc_new W _⟩))
    (fun l pre fp tp x a' W W0 h1 h2 h3 h4 h5 h6 h7 h8 h9 h10 ⟨q, hax, hq⟩ h11 => by subst hax; exact hbody l pre fp tp x W W0 q hq h1 h2 h3 h4 h5 h6 h7 h8 h9 h10 h11)
    hdone hstop
end Go.Proofs.YtcklfffeimnfeaaGreat

namespace Go.Proofs.YtcklfffeimnfeaaGreat
open Go.RowKit

def noDefer (ops : Array Oper) : Bool := ops.all (fun o => match o.op with | .defer _ => false | _ => true)
/-- append in a region that draws, in a fence or a round -/
theorem step_appIn {F : Fence} {m0 : Nat} {P : Program} {ops : Array Oper} {o : Oper} {a : Act} {w : World} {K : Act → World → Prop} {Q : Exit → Act → World → Prop} {E : Prop} (hF : ∀ f, F.fn f)
    (hg : o.guard = none) (s x : Operand) (t tx : TypeId) (hop : o.op = Op.call { callee := Callee.builtin Builtin.append, args := #[s, x], argTypes := #[t, tx] })
    {e : TypeId} {size bytes : Nat} {z : Value} (hE : Elem P t e size bytes z) {ao : Option Addr} {cap : Nat} {g : Option Nat} {n : Nat} {xs : List Value} (ho : Own w ao cap g e size n xs) (hs : a.eval s = .slice ao n cap)
    {xv : Value} {m : Nat} {news : List Value} (hx : a.eval x = xv) (hsrc : Src P size tx xv m news w) (h63 : n + m ≤ maxLen) (hb : (n + m) * bytes ≤ 140737488355328)
    (hK : ∀ ao' cap' g' w', Own w' ao' cap' g' e size (n + m) (xs ++ news) → (g' = g ∨ g' = some w.heap.size) → Only (fun k => g = some k) w w' → K (a.put o.dst (.slice ao' (n + m) cap')) w') :
    if Region.wanted o (yielded ops a.tmps) = true then Oper.wpIn F m0 P o a w K Q else E := by
  have hw : Region.wanted o (yielded ops a.tmps) = true := by simp [Region.wanted, hg]
  rw [if_pos hw]
  obtain ⟨ao', cap', g', w', hrun, r1, r2, r3⟩ := run_app (ty := o.type) hE ho hsrc h63 hb
  refine ⟨fun f _ => hF f, ?_⟩
  rw [Oper.semAt_eq _ _ _ (fun c h => by rw [hop] at h; cases h)]
  simp [execOp, hop, resolve, invoke, builtin, hs, hx, hrun, Result.andThen]
  exact hK ao' cap' g' w' r1 r2 r3
end Go.Proofs.YtcklfffeimnfeaaGreat

namespace Go.Proofs.YtcklfffeimnfeaaGreat
open Go.RowKit

abbrev EdgeD := Nat × Nat × Nat
def okE (x : EdgeD) : Prop := x.1 < 4294967296 ∧ x.2.1 < 4294967296 ∧ x.2.2 < 4294967296
theorem bytesElem : Elem Tryz.prog 68 5 1 1 (.int .u8 0) := Elem.mk' Tryz.underlying68 (by kernel_rfl) rfl (by decide)
theorem Rd.only {w w' : World} {ao : Option Addr} {n : Nat} {xs : List Value} {fp : Nat → Prop} (h : Rd w ao n xs) (ho : Only fp w w') (hn : 0 < n → ∀ k off, ao = some ⟨k, off, none⟩ → ¬ fp k) : Rd w' ao n xs := by
  refine ⟨h.1, ?_⟩
  rcases Nat.eq_zero_or_pos n with h0 | h0
  · exact .inl h0
  · obtain ⟨b, off, h1, h2, h3⟩ := h.pos h0
    exact .inr ⟨b, off, h1, Nat.lt_of_lt_of_le h2 ho.size, fun j hj => (ho.cell h2 (hn h0 b off h1) (off + j)).trans (h3 j hj)⟩
theorem be4_vals (a : Nat) (ha : a < 4294967296) : byteVals (be4 a) = [.int .u8 ((a : Int) / 16777216), .int .u8 ((a : Int) / 65536 % 256), .int .u8 ((a : Int) / 256 % 256), .int .u8 ((a : Int) % 256)] := by
  simp only [byteVals, be4, List.map_cons, List.map_nil, u8n]
  have h : ((a / 16777216 % 256 : Nat) : Int) = (a : Int) / 16777216 := by omega
  rw [h]
  rfl
theorem key3_vals (a b c : Nat) : byteVals (key3 a b c) = byteVals (be4 a) ++ byteVals (be4 b) ++ byteVals (be4 c) := by simp [byteVals, key3]
theorem bits_or_u32_nat (a b : Nat) (ha : a < 4294967296) (hb : b < 4294967296) : bits .or .u32 (a : Int) (b : Int) = ((a ||| b : Nat) : Int) := by
  have hx : a ||| b < 2 ^ 32 := Nat.or_lt_two_pow (by omega) (by omega)
  have h1 : (BitVec.ofInt 32 (a : Int)).toNat = a := by
    rw [BitVec.ofInt_natCast, BitVec.toNat_ofNat]; exact Nat.mod_eq_of_lt (by omega)
  have h2 : (BitVec.ofInt 32 (b : Int)).toNat = b := by
    rw [BitVec.ofInt_natCast, BitVec.toNat_ofNat]; exact Nat.mod_eq_of_lt (by omega)
  show IntKind.u32.wrap ((BitVec.ofInt 32 (a : Int) ||| BitVec.ofInt 32 (b : Int)).toNat : Int) = _
  rw [BitVec.toNat_or, h1, h2]
  simp [IntKind.wrap, IntKind.bits, IntKind.signed]
  omega
theorem or_first (c : Nat) (h : c < 256) : bits .or .u32 0 (c : Int) = (c : Int) := by
  have := bits_or_u32_nat 0 c (by omega) (by omega)
  simpa using this
theorem or_next (x c : Nat) (hx : x < 16777216) (hc : c < 256) : bits .or .u32 ((x : Int) * 256 % 4294967296) (c : Int) = ((x * 256 + c : Nat) : Int) := by
  have h1 : (x : Int) * 256 % 4294967296 = ((x * 256 : Nat) : Int) := by omega
  rw [h1, bits_or_u32_nat _ _ (by omega) (by omega)]
  have h2 := Nat.two_pow_add_eq_or_of_lt (i := 8) hc x
  rw [Nat.mul_comm] at h2
  rw [show x * 256 = x * 2 ^ 8 from rfl, ← h2]
def numE (x : EdgeD) (j : Nat) : Nat := if j = 0 then x.1 else if j = 1 then x.2.1 else x.2.2
/-- what is printed so far -/
def prE (w : World) (B : List UInt8) (o : Value) (wr : World) : Prop :=
  ∃ ao cap g, o = .slice ao B.length cap ∧ Own wr ao cap g 5 1 B.length (byteVals B) ∧ (∀ k, g = some k → w.heap.size ≤ k) ∧ Below w.heap.size w wr
theorem srcManyE {P : Program} {tx e' : TypeId} (hk : P.underlying tx = some (.slice e')) (w : World) (cs : List Value) (t : TypeId) (k size n : Nat) (hn : n = w.heap.size) (hs : cs.length = size) (h1 : ∀ u ∈ cs, u.oneCell' = true) :
    Src P size tx (.slice (some ⟨n, 0, none⟩) 1 k) 1 cs (w.alloc (.cells cs.toArray t)) := by
  subst hn
  exact Src.ofSlice (w.alloc (.cells cs.toArray t)) hk ⟨w.heap.size, 0, none⟩ 1 k cs (by omega) (fun j u hu => by
    rw [Addr.add_lit, Nat.zero_add, World.cell?_alloc_new]
    simpa using hu) h1
def edgeRep : Rep EdgeD := Rep.prod Rep.u32 (Rep.prod Rep.u32 Rep.u32)
def edgeCs (x : EdgeD) : List Value := [.int .u32 (x.1 : Nat), .int .u32 (x.2.1 : Nat), .int .u32 (x.2.2 : Nat)]
theorem edgeRep_ok {W : World} {fp : Nat → Prop} {x : EdgeD} (h : okE x) : edgeRep.ok W fp x (edgeCs x) := ⟨[_], [_, _], rfl, ⟨rfl, h.1⟩, [_], [_], rfl, ⟨rfl, h.2.1⟩, ⟨rfl, h.2.2⟩⟩
theorem edgeElem : Elem Tryz.prog 22 48 3 12 (.agg #[.int .u32 0, .int .u32 0, .int .u32 0]) := Elem.mk' Tryz.underlying22 (by kernel_rfl) rfl (by decide)
structure EB (s : Nat) (w W : World) : Prop where
  below : Below s w W
  size : s < W.heap.size
  r0 : W.cell? ⟨s, 0, none⟩ = some (.int .u32 0)
  r1 : W.cell? ⟨s, 1, none⟩ = some (.int .u32 0)
  r2 : W.cell? ⟨s, 2, none⟩ = some (.int .u32 0)
  g0 : W.frozen? ⟨s, 0, none⟩ = false
  g1 : W.frozen? ⟨s, 1, none⟩ = false
  g2 : W.frozen? ⟨s, 2, none⟩ = false
theorem EB.ext {s : Nat} {w W W' : World} (h : EB s w W) (hB : Below W.heap.size W W') : EB s w W' := by
  obtain ⟨a, b, r0, r1, r2, g0, g1, g2⟩ := h
  have hc := (bcell hB).1
  have hf := (bcell hB).2
  have hs := hB.size
  exact ⟨a.trans (hB.mono (by omega)), by omega, (hc _ _ (by omega)).trans r0, (hc _ _ (by omega)).trans r1, (hc _ _ (by omega)).trans r2, (hf _ _ (by omega)).trans g0, (hf _ _ (by omega)).trans g1, (hf _ _ (by omega)).trans g2⟩
end Go.Proofs.YtcklfffeimnfeaaGreat

namespace Go.Proofs.YtcklfffeimnfeaaGreat
open Go.RowKit

theorem four_any (a : Nat) (ha : a < 4294967296) (w : World) :
    Calls Tryz.prog 93 #[.int .u32 a] w (RetOwn 5 1 4 (byteVals (be4 a)) w) := by
  have hv := be4_vals a ha
  have Hv := Lib.hid hv
  clear hv
  go_enter Tryz.func93, Tryz.ntmps93
  go_wp2
  go_ret
  refine ⟨some ⟨w.heap.size, 0, none⟩, 4, some w.heap.size, rfl, ⟨rfl, .inr ⟨w.heap.size, _, rfl, rfl, heap_alloc_new w _, by omega, by simp [maxLen], rfl, ?_⟩⟩, fun k h => by cases h; exact Nat.le_refl _, ext_alloc w _⟩
  rw [Hv.out]
  rfl

theorem number_any (a b c d : UInt8) (bb off len cap : Nat) (w : World) (h4 : 4 ≤ len) (h0 : w.cell? ⟨bb, off, none⟩ = some (.int .u8 a.toNat)) (h1 : w.cell? ⟨bb, off + 1, none⟩ = some (.int .u8 b.toNat)) (h2 : w.cell? ⟨bb, off + 2, none⟩ = some (.int .u8 c.toNat)) (h3 : w.cell? ⟨bb, off + 3, none⟩ = some (.int .u8 d.toNat)) :
    Calls Tryz.prog 92 #[.slice (some ⟨bb, off, none⟩) len cap] w fun e w' => e = .returned (.int .u32 (num4 [a, b, c, d])) ∧ ∃ n, w' = w.drewN n := by
  have k0 := a.toNat_lt; have k1 := b.toNat_lt; have k2 := c.toNat_lt; have k3 := d.toNat_lt
  simp only [num4, List.foldl_cons, List.foldl_nil, Nat.zero_mul, Nat.zero_add]
  generalize a.toNat = a at *
  generalize b.toNat = b at *
  generalize c.toNat = c at *
  generalize d.toNat = d at *
  have l0 : (0 : Int) < len := by omega
  have l1 : (1 : Int) < len := by omega
  have l2 : (2 : Int) < len := by omega
  have l3 : (3 : Int) < len := by omega
  go_enter Tryz.func92, Tryz.ntmps92
  go_wp2
  go_quiet (fail)
  go_wp2
  go_ret
  refine ⟨?_, _, rfl⟩
  show Ending.returned (.int .u32 (16777216 * (a : Int) + 65536 * (b : Int) + 256 * (c : Int) + (d : Int))) = _
  congr 2
  omega

theorem rkey_any (a b c : Nat) (ha : a < 4294967296) (hb : b < 4294967296) (hc : c < 4294967296) (w : World) :
    Calls Tryz.prog 61 #[.agg #[.int .u32 a, .int .u32 b, .int .u32 c]] w (RetOwn 5 1 12 (byteVals (key3 a b c)) w) := by
  have hE := bytesElem
  have hk := Tryz.underlying68
  have Hk := Lib.hid hk
  clear hk
  go_enter Tryz.func61, Tryz.ntmps61
  go_wp2_with fail
  obtain ⟨wA, hwA⟩ : ∃ x, (w.alloc (Obj.cells #[Value.int IntKind.u32 a, Value.int IntKind.u32 b, Value.int IntKind.u32 c] 48)).alloc (Obj.cells #[] 5) = x := ⟨_, rfl⟩
  have ho0 : Own wA (some ⟨w.heap.size + 1, 0, none⟩) 0 (some (w.heap.size + 1)) 5 1 0 [] := by rw [← hwA]; exact Own.emptyAt _ 5 1 (w.heap.size + 1) (by simp)
  have a1 : wA.cell? ⟨w.heap.size, 1, none⟩ = some (.int .u32 b) := by rw [← hwA]; simp [go_sem, ↓IntWalk.iteOmega]
  have a2 : wA.cell? ⟨w.heap.size, 2, none⟩ = some (.int .u32 c) := by rw [← hwA]; simp [go_sem, ↓IntWalk.iteOmega]
  have hBA : Below w.heap.size w wA := by rw [← hwA]; exact (ext_alloc w _).alloc (by simp) _
  have hsA : w.heap.size + 2 ≤ wA.heap.size := by rw [← hwA]; simp
  rw [hwA]
  have Ho0 := Lib.hid ho0
  have A1 := Lib.hid a1
  have A2 := Lib.hid a2
  clear ho0 a1 a2 hwA
  go_wp2_with (first
    | (go_at_call 93; refine (four_any _ (by assumption) _).mono ?_; rintro e w1 ⟨af, cf, gf, rfl, hof, hgf, hB1⟩)
    | (at_builtin; refine wpList_app rfl (.tmp 4) (.tmp 7) 68 68 rfl hE (Ho0.out.ext hB1) rfl rfl (hof.rd.src Hk.out _ (byteVals_one _)) (by simp [maxLen]) (by omega) ?_; intro ao1 cap1 g1 w2 ho1 hg1 hon1; have hs1 := hB1.size; have hA1 : Below (w.heap.size + 1) wA w2 := (hB1.mono (by omega)).trans (hon1.below (by omega) (fun k hk e => by cases e; omega)); have hG1 : ∀ k, g1 = some k → w.heap.size + 1 ≤ k := (fun k h => by rcases hg1 with rfl | rfl <;> cases h <;> omega); have a1 := ((bcell hA1).1 w.heap.size 1 (by omega)).trans A1.out; have HG1 := Lib.hid hG1; clear hof hgf hB1 hg1 hon1 hG1)
    | (at_builtin; refine wpList_app rfl (.tmp 9) (.tmp 12) 68 68 rfl hE (ho1.ext hB1) rfl rfl (hof.rd.src Hk.out _ (byteVals_one _)) (by simp [maxLen]) (by omega) ?_; intro ao2 cap2 g2 w3 ho2 hg2 hon2; have hs1 := hB1.size; have hs2 := hA1.size; have hA2 : Below (w.heap.size + 1) wA w3 := (hA1.trans (hB1.mono (by omega))).trans (hon2.below (by omega) (fun k hk e => by have := HG1.out k e; omega)); have hG2 : ∀ k, g2 = some k → w.heap.size + 1 ≤ k := (fun k h => by rcases hg2 with rfl | rfl <;> first | exact HG1.out k h | (cases h; omega)); have a2 := ((bcell hA2).1 w.heap.size 2 (by omega)).trans A2.out; have HG2 := Lib.hid hG2; clear hof hgf hB1 hg2 hon2 hG2)
    | (at_builtin; refine wpList_app rfl (.tmp 14) (.tmp 17) 68 68 rfl hE (ho2.ext hB1) rfl rfl (hof.rd.src Hk.out _ (byteVals_one _)) (by simp [maxLen]) (by omega) ?_; intro ao3 cap3 g3 w4 ho3 hg3 hon3; have hs1 := hB1.size; have hs3 := hA2.size; have hA3 : Below (w.heap.size + 1) wA w4 := (hA2.trans (hB1.mono (by omega))).trans (hon3.below (by omega) (fun k hk e => by have := HG2.out k e; omega)); have hG3 : ∀ k, g3 = some k → w.heap.size + 1 ≤ k := (fun k h => by rcases hg3 with rfl | rfl <;> first | exact HG2.out k h | (cases h; omega)); have HG3 := Lib.hid hG3; clear hof hgf hB1 hg3 hon3 hG3))
  go_ret
  refine ⟨ao3, cap3, g3, rfl, ?_, fun k h => by have := HG3.out k h; omega, hBA.trans (hA3.mono (by omega))⟩
  rw [key3_vals]
  simpa using ho3
end Go.Proofs.YtcklfffeimnfeaaGreat

namespace Go.Proofs.YtcklfffeimnfeaaGreat
open Go.RowKit

def edgeV (x : Nat × Nat × Nat) : Value := .agg #[.int .u32 x.1, .int .u32 x.2.1, .int .u32 x.2.2]

theorem rof_yes (l : List UInt8) (ao : Option Addr) (cap : Nat) (w : World) (h12 : l.length = 12) (hcap : l.length ≤ cap) (hrd : Rd w ao l.length (byteVals l)) :
    Calls Tryz.prog 58 #[.slice ao l.length cap] w fun e w' => e = .returned (.tuple #[edgeV (keyOf l), .bool true]) ∧ Below w.heap.size w w' := by
  obtain ⟨b, off, rfl, hb, hc⟩ := hrd.pos (by omega)
  obtain ⟨c0, c1, c2, c3, c4, c5, c6, c7, c8, c9, c10, c11, rfl⟩ := twelve l h12
  have h0 := hc 0 (by simp); have h1 := hc 1 (by simp); have h2 := hc 2 (by simp); have h3 := hc 3 (by simp)
  have h4 := hc 4 (by simp); have h5 := hc 5 (by simp); have h6 := hc 6 (by simp); have h7 := hc 7 (by simp)
  have h8 := hc 8 (by simp); have h9 := hc 9 (by simp); have h10 := hc 10 (by simp); have h11 := hc 11 (by simp)
  simp only [byteVals, List.map_cons, List.map_nil, List.getElem?_cons_zero, List.getElem?_cons_succ, Nat.add_zero] at h0 h1 h2 h3 h4 h5 h6 h7 h8 h9 h10 h11
  simp only [List.length_cons, List.length_nil] at hcap
  clear hc hrd h12
  simp only [keyOf, List.take_succ_cons, List.take_zero, List.drop_succ_cons, List.drop_zero]
  have hcap' : (12 : Int) ≤ cap := by omega
  have hcap8 : (8 : Int) ≤ cap := by omega
  have hcap4 : (4 : Int) ≤ cap := by omega
  have hn4 : ¬ cap = 4 := by omega
  have hn8 : ¬ cap = 8 := by omega
  go_enter Tryz.func58, Tryz.ntmps58
  go_wp2_with fail
  obtain ⟨wA, hwA⟩ : ∃ x, w.alloc (Obj.cells #[Value.int IntKind.u32 0, Value.int IntKind.u32 0, Value.int IntKind.u32 0] 48) = x := ⟨_, rfl⟩
  have hBA : Below w.heap.size w wA := by rw [← hwA]; exact ext_alloc w _
  have hA := fun o => (bcell hBA).1 b o hb
  rw [← hA] at h0
  rw [← hA] at h1
  rw [← hA] at h2
  rw [← hA] at h3
  rw [← hA] at h4
  rw [← hA] at h5
  rw [← hA] at h6
  rw [← hA] at h7
  rw [← hA] at h8
  rw [← hA] at h9
  rw [← hA] at h10
  rw [← hA] at h11
  have a0 : wA.cell? ⟨w.heap.size, 0, none⟩ = some (.int .u32 0) := by rw [← hwA]; simp [go_sem, ↓IntWalk.iteOmega]
  have f0 : wA.frozen? ⟨w.heap.size, 0, none⟩ = false := by rw [← hwA]; simp [go_sem, ↓IntWalk.iteOmega]
  have a1 : wA.cell? ⟨w.heap.size, 1, none⟩ = some (.int .u32 0) := by rw [← hwA]; simp [go_sem, ↓IntWalk.iteOmega]
  have f1 : wA.frozen? ⟨w.heap.size, 1, none⟩ = false := by rw [← hwA]; simp [go_sem, ↓IntWalk.iteOmega]
  have a2 : wA.cell? ⟨w.heap.size, 2, none⟩ = some (.int .u32 0) := by rw [← hwA]; simp [go_sem, ↓IntWalk.iteOmega]
  have f2 : wA.frozen? ⟨w.heap.size, 2, none⟩ = false := by rw [← hwA]; simp [go_sem, ↓IntWalk.iteOmega]
  rw [hwA]
  clear hwA hA
  go_region_held3 (fun w' => True) (trivial)
      (first
        | (go_at_call 92; (with_reducible refine (number_any c0 c1 c2 c3 b off _ _ _ (by omega) (by simp [go_sem, *]) (by simp [go_sem, *]) (by simp [go_sem, *]) (by simp [go_sem, *])).mono ?_); rintro e w1 ⟨rfl, nq, rfl⟩)
        | (go_at_call 92; (with_reducible refine (number_any c4 c5 c6 c7 b (off + 4) _ _ _ (by omega) (by simp [go_sem, *]) (by simp [go_sem, *]) (by simp [go_sem, *]) (by simp [go_sem, *])).mono ?_); rintro e w1 ⟨rfl, nq, rfl⟩)
        | (go_at_call 92; (with_reducible refine (number_any c8 c9 c10 c11 b (off + 8) _ _ _ (by omega) (by simp [go_sem, *]) (by simp [go_sem, *]) (by simp [go_sem, *]) (by simp [go_sem, *])).mono ?_); rintro e w1 ⟨rfl, nq, rfl⟩))
  go_wp2
  refine bodyPost_ret (v := .tuple #[edgeV (num4 [c0, c1, c2, c3], num4 [c4, c5, c6, c7], num4 [c8, c9, c10, c11]), .bool true]) (by simp [results, Tryz.results58, go_sem, cell_set_ite, a0, a1, a2, edgeV]) rfl ⟨rfl, ?_⟩
  exact (((below_drewN hBA _).setCell (by simp) _).setCell (by simp) _).setCell (by simp) _

theorem rof_no (n cap : Nat) (ao : Option Addr) (w : World) (h12 : n ≠ 12) :
    Calls Tryz.prog 58 #[.slice ao n cap] w fun e w' => e = .returned (.tuple #[edgeV (0, 0, 0), .bool false]) ∧ Below w.heap.size w w' := by
  have hd : ((n : Int) != 12) = true := by simp; omega
  go_enter Tryz.func58, Tryz.ntmps58
  go_wp2
  refine bodyPost_ret (v := .tuple #[edgeV (0, 0, 0), .bool false]) (by simp [results, Tryz.results58, go_sem, ↓IntWalk.iteOmega, edgeV]) rfl ⟨rfl, ?_⟩
  exact ext_alloc w _
end Go.Proofs.YtcklfffeimnfeaaGreat
