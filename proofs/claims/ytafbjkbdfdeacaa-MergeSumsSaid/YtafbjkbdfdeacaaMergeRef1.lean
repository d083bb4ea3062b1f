/- The reference's rows: with. -/
import Derived.Test.YtafbjkbdfdeacaaMergeRows
import Derived.StillTailTactics
namespace Go.Proofs.Ytafbjkbdfdeacaa
set_option linter.unusedSimpArgs false
set_option linter.unusedVariables false
open Go.RowKit

theorem RdS.css {α : Type} {R : Rep α} {fp : Nat → Prop} {w : World} {b : Nat} : ∀ {l : List α} {off : Nat}, RdS R fp w (some ⟨b, off, none⟩) l →
    ∃ css, All2 (fun x cs => R.ok w fp x cs) l css ∧ ∀ j u, css.flatten[j]? = some u → w.cell? ⟨b, off + j, none⟩ = some u
  | [], off, h => ⟨[], .nil, fun j u hu => by simp at hu⟩
  | x :: l, off, h => by
    obtain ⟨b', off', cs, e, _, _, hx, hc⟩ := h.at 0 (by simp)
    cases e
    obtain ⟨css, h1, h2⟩ := RdS.css (l := l) (by simpa using h.drop 1)
    refine ⟨cs :: css, .cons hx h1, fun j u hu => ?_⟩
    rw [List.flatten_cons] at hu
    by_cases hj : j < R.size
    · rw [List.getElem?_append_left (by rw [R.len hx]; exact hj)] at hu
      rw [← hu, ← hc j hj]; simp
    · rw [List.getElem?_append_right (by rw [R.len hx]; omega), R.len hx] at hu
      have := h2 _ _ hu
      rw [show off + R.size + (j - R.size) = off + j by omega] at this
      exact this
/-- a representation whose cells are plain -/
def OneC {α : Type} (R : Rep α) : Prop := ∀ {w : World} {fp : Nat → Prop} {x : α} {cs : List Value}, R.ok w fp x cs → ∀ u ∈ cs, u.oneCell' = true
theorem OneC.nat (k : IntKind) (b : Nat) : OneC (Rep.nat k b) := fun h u hu => by rw [h.1, List.mem_singleton] at hu; subst hu; rfl
theorem OneC.slice {α : Type} (R : Rep α) : OneC (Rep.slice R) := fun h u hu => by obtain ⟨a, c, rfl, _⟩ := h; rw [List.mem_singleton.1 hu]; rfl
theorem OneC.prod {α β : Type} {R : Rep α} {S : Rep β} (h1 : OneC R) (h2 : OneC S) : OneC (R.prod S) := fun h u hu => by
  obtain ⟨c, d, rfl, h3, h4⟩ := h
  rcases List.mem_append.1 hu with h | h
  · exact h1 h3 u h
  · exact h2 h4 u h
theorem OneC.all {α : Type} {R : Rep α} (ho : OneC R) {fp : Nat → Prop} {w : World} : ∀ {l : List α} {css : List (List Value)}, All2 (fun x cs => R.ok w fp x cs) l css → ∀ u ∈ css.flatten, u.oneCell' = true
  | _, _, .nil => fun u hu => by simp at hu
  | _, _, .cons h1 h2 => fun u hu => by
    rw [List.flatten_cons] at hu
    rcases List.mem_append.1 hu with h | h
    · exact ho h1 u h
    · exact ho.all h2 u h
/-- whatever reads as a slice, as what is appended -/
theorem RdS.srcAll {α : Type} {R : Rep α} (ho : OneC R) {P : Program} {tx e' : TypeId} (hk : P.underlying tx = some (.slice e')) {fp : Nat → Prop} {w : World} {ao : Option Addr} {l : List α} (h : RdS R fp w ao l) :
    ∃ css, All2 (fun x cs => R.ok w fp x cs) l css ∧ ∀ W', Below w.heap.size w W' → ∀ cap, Src P R.size tx (.slice ao l.length cap) l.length css.flatten W' := by
  rcases Nat.eq_zero_or_pos l.length with h0 | h0
  · obtain rfl := List.eq_nil_of_length_eq_zero h0
    refine ⟨[], .nil, fun W' _ cap => ?_⟩
    cases ao with
    | none => exact Src.ofNil _ hk cap
    | some a => exact Src.ofSlice W' hk a 0 cap [] (by simp) (fun j u hu => by simp at hu) (fun u hu => by simp at hu)
  · obtain ⟨b, off, _, rfl, _, hb, _, _⟩ := h.at 0 h0
    obtain ⟨css, h1, h2⟩ := h.css
    refine ⟨css, h1, fun W' hB cap => Src.ofSlice W' hk ⟨b, off, none⟩ l.length cap css.flatten (all2_len h1) (fun j u hu => ?_) (ho.all h1)⟩
    rw [Addr.add_lit]
    exact ((bcell hB).1 b (off + j) hb).trans (h2 j u hu)
/-- what was put together reads -/
theorem rd_join {α : Type} {R : Rep α} {fp : Nat → Prop} {w w' : World} {ao : Option Addr} {cap : Nat} {g : Option Nat} {e : TypeId} {l : List α} {css : List (List Value)} {n : Nat} {xs : List Value} (h : All2 (fun x cs => R.ok w fp x cs) l css) (ho : Own w' ao cap g e R.size n xs) (hn : n = l.length) (hx : xs = css.flatten)
    (hk : ∀ b, fp b → b < w.heap.size → w'.heap[b]? = w.heap[b]?) (hs : w.heap.size ≤ w'.heap.size) : RdS R (fun b => fp b ∨ g = some b) w' ao l := by
  subst hn hx
  exact OwnS.rd ⟨css, ho, forall2_imp (fun x cs h => R.keep h hk hs) h⟩
theorem all2_mono {α : Type} {R : Rep α} {fp fp' : Nat → Prop} {w w' : World} {l : List α} {css : List (List Value)} (h : All2 (fun x cs => R.ok w fp x cs) l css) (hk : ∀ b, fp b → b < w.heap.size → w'.heap[b]? = w.heap[b]?) (hs : w.heap.size ≤ w'.heap.size) (hm : ∀ b, fp b → fp' b) : All2 (fun x cs => R.ok w' fp' x cs) l css :=
  forall2_imp (fun x cs h => R.mono (R.keep h hk hs) (fun b hb _ => hm b hb)) h
theorem heap_alloc_ite (w : World) (c : Array Value) (t : TypeId) (n : Nat) : (w.alloc (.cells c t)).heap[n]? = if n = w.heap.size then some (.cells c t (0, 0)) else w.heap[n]? := by
  split
  · rename_i h; subst h; exact heap_alloc_new w _
  · rename_i h; unfold World.alloc; simp only [Array.getElem?_push]; rw [if_neg h]
theorem drew_heap (w : World) : w.drew.heap = w.heap := rfl
theorem own_empty {W : World} {b : Nat} {e : TypeId} {size : Nat} (h : W.heap[b]? = some (.cells #[] e (0, 0))) : Own W (some ⟨b, 0, none⟩) 0 (some b) e size 0 [] :=
  ⟨by simp, .inr ⟨b, #[], rfl, rfl, h, Nat.le_refl _, by simp [maxLen], by simp, by simp⟩⟩
theorem srcBlk {P : Program} {tx e' : TypeId} (hk : P.underlying tx = some (.slice e')) {W : World} (cs : List Value) {t : TypeId} {k b : Nat} (size : Nat) (hb : W.heap[b]? = some (.cells cs.toArray t (0, 0))) (hs : cs.length = size) (h1 : ∀ u ∈ cs, u.oneCell' = true) :
    Src P size tx (.slice (some ⟨b, 0, none⟩) 1 k) 1 cs W :=
  Src.ofSlice W hk ⟨b, 0, none⟩ 1 k cs (by omega) (fun j u hu => by
    rw [Addr.add_lit, Nat.zero_add, cell_of_row W b j _ _ _ hb]
    simpa using hu) h1
theorem oneArc : OneC arcRep := OneC.prod (OneC.nat _ _) (OneC.nat _ _)
theorem oneRow : OneC rowRep := OneC.prod (OneC.nat _ _) (OneC.slice _)
theorem rd_pos {α : Type} {R : Rep α} {fp : Nat → Prop} {w : World} {ao : Option Addr} {l : List α} (h : RdS R fp w ao l) (h0 : 0 < l.length) : ∃ b off, ao = some ⟨b, off, none⟩ ∧ fp b ∧ b < w.heap.size := by
  obtain ⟨b, off, _, h1, h2, h3, _⟩ := h.at 0 h0
  exact ⟨b, off, h1, h2, h3⟩
/-- a row of those that lie somewhere -/
theorem RdS.row {fp : Nat → Prop} {w : World} {ao : Option Addr} {l : List RowD} (h : RdS rowRep fp w ao l) (k : Nat) (hk : k < l.length) :
    ∃ b off ra rc, ao = some ⟨b, off, none⟩ ∧ b < w.heap.size ∧ w.cell? ⟨b, off + k * 2, none⟩ = some (.int .u32 (l[k].1 : Nat)) ∧ w.cell? ⟨b, off + k * 2 + 1, none⟩ = some (.slice ra l[k].2.length rc) ∧
      l[k].1 < 4294967296 ∧ l[k].2.length ≤ rc ∧ rc ≤ maxLen ∧ RdS arcRep fp w ra l[k].2 := by
  obtain ⟨b, off, cs, rfl, _, hb, ⟨c, d, rfl, ⟨rfl, h1⟩, ra, rc, rfl, h2, h3, h4⟩, hc⟩ := h.at k hk
  exact ⟨b, off, ra, rc, rfl, hb, hc 0 (by decide), hc 1 (by decide), h1, h2, h3, h4⟩

/-- rows, with an edge more -/
def withR (l : List RowD) (x : EdgeD) : List RowD := match l.getLast? with
  | some r => if r.1 = x.1 then l.dropLast ++ [(x.1, addArc r.2 x)] else l ++ [(x.1, [(x.2.1, x.2.2)])]
  | none => [(x.1, [(x.2.1, x.2.2)])]
def RowsOne (l : List RowD) (fp : Nat → Prop) (w : World) (e : Ending) (w' : World) : Prop :=
  ∃ ao cap, e = .returned (.slice ao l.length cap) ∧ l.length ≤ cap ∧ cap ≤ maxLen ∧ RdS rowRep (fun k => fp k ∨ w.heap.size ≤ k) w' ao l ∧ Below w.heap.size w w'

theorem rd_arc1 {w : World} {b x1 x2 : Nat} {t : TypeId} (h : w.heap[b]? = some (.cells #[.int .u32 (x1 : Nat), .int .u32 (x2 : Nat)] t (0, 0))) (hx : okA (x1, x2)) : RdS arcRep (fun k => k = b) w (some ⟨b, 0, none⟩) [(x1, x2)] := by
  refine .inr ⟨b, 0, rfl, rfl, (Array.getElem?_eq_some_iff.1 h).1, fun j x hj => ?_⟩
  have hj0 : j = 0 := by have := (List.getElem?_eq_some_iff.1 hj).1; simpa using this
  subst hj0
  simp only [List.getElem?_cons_zero, Option.some.injEq] at hj
  subst hj
  refine ⟨arcCs (x1, x2), arcRep_ok hx, fun i hi => ?_⟩
  have hi2 : i = 0 ∨ i = 1 := by have : i < 2 := hi; omega
  rw [Nat.zero_add, Nat.zero_mul, Nat.zero_add, cell_of_row w b i _ _ _ h]
  rcases hi2 with rfl | rfl <;> rfl
theorem with_new {l : List RowD} {x : EdgeD} {fp : Nat → Prop} {w w5 : World} {css : List (List Value)} {ao : Option Addr} {cap ab : Nat} {g : Option Nat} {t : TypeId} (hall : All2 (fun x cs => rowRep.ok w fp x cs) l css) (hfp : ∀ b, fp b → b < w.heap.size) (hB : Below w.heap.size w w5)
    (ho : Own w5 ao cap g t 2 (l.length + 1) (css.flatten ++ [.int .u32 (x.1 : Nat), .slice (some ⟨ab, 0, none⟩) 1 1])) {ta : TypeId} (hb : w5.heap[ab]? = some (.cells #[.int .u32 (x.2.1 : Nat), .int .u32 (x.2.2 : Nat)] ta (0, 0))) (hx : okE x) (hg : ∀ b, g = some b → w.heap.size ≤ b) (hab : w.heap.size ≤ ab) :
    RdS rowRep (fun k => fp k ∨ w.heap.size ≤ k) w5 ao (l ++ [(x.1, [(x.2.1, x.2.2)])]) := by
  have h1 := all2_mono (fp' := fun k => fp k ∨ w.heap.size ≤ k) hall (fun b hb _ => hB.block b (hfp b hb)) hB.size (fun _ h => .inl h)
  have h2 : rowRep.ok w5 (fun k => fp k ∨ w.heap.size ≤ k) (x.1, [(x.2.1, x.2.2)]) [.int .u32 (x.1 : Nat), .slice (some ⟨ab, 0, none⟩) 1 1] :=
    rowRep_ok (p := (x.1, [(x.2.1, x.2.2)])) (by simp) (by simp [maxLen]) hx.1 ((rd_arc1 hb ⟨hx.2.1, hx.2.2⟩).mono (fun b h _ => by subst h; exact .inr hab))
  have hO : OwnS rowRep (fun k => fp k ∨ w.heap.size ≤ k) w5 ao cap g t (l ++ [(x.1, [(x.2.1, x.2.2)])]) := ⟨css ++ [_], by simpa using (show Own w5 ao cap g t rowRep.size (l.length + 1) (css.flatten ++ [.int .u32 (x.1 : Nat), .slice (some ⟨ab, 0, none⟩) 1 1]) from ho), all2_append h1 (.cons h2 .nil)⟩
  exact hO.rd.mono (fun b h _ => h.elim id (fun h => .inr (hg b h)))

theorem arc_fp {w w' : World} {fp fp' : Nat → Prop} {x : ArcD} {cs : List Value} (h : arcRep.ok w fp x cs) : arcRep.ok w' fp' x cs := h
theorem with_last {A : List RowD} {arcs : List ArcD} {fp : Nat → Prop} {w w5 : World} {css : List (List Value)} {ao ra : Option Addr} {cap rc fr : Nat} {g : Option Nat} {t : TypeId} (hall : All2 (fun x cs => rowRep.ok w fp x cs) A css) (hfp : ∀ b, fp b → b < w.heap.size) (hB : Below w.heap.size w w5)
    (ho : Own w5 ao cap g t 2 (A.length + 1) (css.flatten ++ [.int .u32 (fr : Nat), .slice ra arcs.length rc])) (hra : RdS arcRep (fun k => w.heap.size ≤ k) w5 ra arcs) (h1 : arcs.length ≤ rc) (h2 : rc ≤ maxLen) (hfr : fr < 4294967296) (hg : ∀ b, g = some b → w.heap.size ≤ b) :
    RdS rowRep (fun k => fp k ∨ w.heap.size ≤ k) w5 ao (A ++ [(fr, arcs)]) := by
  have h3 := all2_mono (fp' := fun k => fp k ∨ w.heap.size ≤ k) hall (fun b hb _ => hB.block b (hfp b hb)) hB.size (fun _ h => .inl h)
  have hO : OwnS rowRep (fun k => fp k ∨ w.heap.size ≤ k) w5 ao cap g t (A ++ [(fr, arcs)]) := ⟨css ++ [_], by simpa using (show Own w5 ao cap g t rowRep.size (A.length + 1) (css.flatten ++ [.int .u32 (fr : Nat), .slice ra arcs.length rc]) from ho), all2_append h3 (.cons (rowRep_ok (p := (fr, arcs)) h1 h2 hfr (hra.mono (fun b h _ => .inr h))) .nil)⟩
  exact hO.rd.mono (fun b h _ => h.elim id (fun h => .inr (hg b h)))

set_option maxRecDepth 100000 in
set_option maxHeartbeats 3200000 in
theorem with_any (l : List RowD) (x : EdgeD) (ao : Option Addr) (cap : Nat) (w : World) (hl : l.length ≤ 100000) (hx : okE x) (fp : Nat → Prop) (hfp : ∀ b, fp b → b < w.heap.size) (hrd : RdS rowRep fp w ao l) (hcap : l.length ≤ cap) (hne : ∀ A r, l = A ++ [r] → 0 < r.2.length ∧ r.2.length ≤ 1000000 ∧ (r.1 = x.1 → sumA r.2 + x.2.2 ≤ 2147483647)) :
    Calls Try.prog 42 #[.slice ao l.length cap, edgeV x] w (RowsOne (withR l x) fp w) := by
  have Hfp := Lib.hid hfp
  clear hfp
  have hE := rowElem
  have hEa := arcElem
  obtain ⟨x0, x1, x2⟩ := x
  simp only [edgeV]
  by_cases h0 : l.length = 0
  · obtain rfl := List.eq_nil_of_length_eq_zero h0
    have hd : (((0 : Nat) : Int) == 0) = true := rfl
    obtain ⟨css, hall, hsrc⟩ := hrd.srcAll oneRow (P := Try.prog) (tx := 36) Try.underlying36
    have Hsrc := Lib.hid hsrc
    have Hall := Lib.hid hall
    have Hx := Lib.hid hx
    have HWr := Lib.hid (show withR [] (x0, x1, x2) = [] ++ [(x0, [(x1, x2)])] from rfl)
    clear hall hsrc hrd hne hx
    go_enter Try.func42, Try.ntmps42
    go_wp2_with fail
    go_quiet (fail)
    go_wp2_with fail
    obtain ⟨w2, hw2⟩ : ∃ w2, ((w.alloc (Obj.cells #[Value.int IntKind.u32 (x0 : Nat), Value.int IntKind.u32 (x1 : Nat), Value.int IntKind.u32 (x2 : Nat)] 24)).alloc (Obj.cells #[Value.int IntKind.u32 (x1 : Nat), Value.int IntKind.u32 (x2 : Nat)] 59)).drewN nq = w2 := ⟨_, rfl⟩
    have hB2 : Below w.heap.size w w2 := by rw [← hw2]; exact below_drewN ((ext_alloc w _).alloc (by simp) _) _
    have hs2 : w.heap.size + 2 ≤ w2.heap.size := by rw [← hw2]; simp
    have e0 : w2.cell? ⟨w.heap.size, 0, none⟩ = some (.int .u32 (x0 : Nat)) := by rw [← hw2]; simp [go_sem, ↓IntWalk.iteOmega]
    have a0 : w2.cell? ⟨w.heap.size + 1, 0, none⟩ = some (.int .u32 (x1 : Nat)) := by rw [← hw2]; simp [go_sem, ↓IntWalk.iteOmega]
    have a1 : w2.cell? ⟨w.heap.size + 1, 1, none⟩ = some (.int .u32 (x2 : Nat)) := by rw [← hw2]; simp [go_sem, ↓IntWalk.iteOmega]
    rw [hw2]
    have HB2 := Lib.hid hB2
    clear hw2 hB2
    go_region_held3 (fun w' => w'.cell? ⟨w.heap.size, 0, none⟩ = some (.int .u32 (x0 : Nat)) ∧ w'.cell? ⟨w.heap.size + 1, 0, none⟩ = some (.int .u32 (x1 : Nat)) ∧ w'.cell? ⟨w.heap.size + 1, 1, none⟩ = some (.int .u32 (x2 : Nat))) (first | exact ⟨e0, a0, a1⟩ | exact ⟨e4, b4, c4⟩ | exact ⟨e5, b5, c5⟩ | (refine ⟨?_, ?_, ?_⟩ <;> simp [go_sem, ↓IntWalk.iteOmega, e0, a0, a1]; done) | (refine ⟨?_, ?_, ?_⟩ <;> simp [go_sem, ↓IntWalk.iteOmega, e4, b4, c4]; done) | go_keep)
      (first
        | (refine step_app rfl (.tmp 29) (.tmp 30) 36 36 rfl hE (own_empty (by simp only [drew_heap, heap_alloc_ite, World.size_alloc, ↓IntWalk.iteOmega, if_true])) rfl rfl (Hsrc.out _ (HB2.out.trans ((by repeat (first | exact Below.refl _ _ | refine Below.drew ?_ | refine Below.alloc ?_ (by first | omega | (simp; try omega)) _) : Below w2.heap.size w2 _).mono (by omega))) _) (by first | (simp only [maxLen]; omega) | (simp [maxLen]; done)) (by first | omega | (simp; done)) ?_; intro ao4 cap4 g4 w4 ho4 hg4 hon4; rw [Nat.zero_add, List.nil_append] at ho4; have hB4 : Below w2.heap.size w2 w4 := Below.trans (by repeat (first | exact Below.refl _ _ | refine Below.drew ?_ | refine Below.alloc ?_ (by first | omega | (simp; try omega)) _)) (hon4.below (by simp; try omega) (fun k hk e => by cases e; omega)); have e4 := ((bcell hB4).1 w.heap.size 0 (by omega)).trans e0; have b4 := ((bcell hB4).1 (w.heap.size + 1) 0 (by omega)).trans a0; have c4 := ((bcell hB4).1 (w.heap.size + 1) 1 (by omega)).trans a1; have Ho4 := Lib.hid ho4; have Hg4 := Lib.hid hg4; have Hon4 := Lib.hid hon4; have hg4n : ∀ k, g4 = some k → w2.heap.size ≤ k := (fun k h => by rcases hg4 with e | e <;> rw [e] at h <;> cases h <;> first | omega | (simp; done) | (simp; omega)); have Hg4n := Lib.hid hg4n; clear hg4n; have hs4 := hon4.size; simp at hs4; have HB4 := Lib.hid hB4; clear ho4 hg4 hon4 hB4)
        | ((first | (refine step_app (g := g4) (xs := css.flatten) (m := 1) (news := [.int .u32 (x0 : Nat), .slice (some ⟨w4.heap.size, 0, none⟩) 1 1]) rfl (.tmp 31) (.tmp 37) 36 36 rfl hE ?_ rfl rfl ?_ ?_ ?_ ?_; (try rw [Nat.zero_add]); (first | exact (Ho4.out.alloc _).alloc _ | exact Ho4.out.alloc _ | exact Ho4.out); (refine srcManyE Try.underlying36 _ [_, _] _ _ 2 _ ?_ rfl ?_; (first | rfl | omega | (focus (simp; done))); (focus (simp [Value.oneCell']; done))); (first | (simp only [maxLen]; omega) | (focus (simp [maxLen]; done))); (first | omega | (focus (simp; done)))) | (refine step_app (g := g4) (xs := css.flatten) (m := 1) (news := [.int .u32 (x0 : Nat), .slice (some ⟨w2.heap.size + 1, 0, none⟩) 1 1]) rfl (.tmp 31) (.tmp 37) 36 36 rfl hE ?_ rfl rfl ?_ ?_ ?_ ?_; (try rw [Nat.zero_add]); (first | exact (Ho4.out.alloc _).alloc _ | exact Ho4.out.alloc _ | exact Ho4.out); (refine srcManyE Try.underlying36 _ [_, _] _ _ 2 _ ?_ rfl ?_; (first | rfl | omega | (focus (simp; done))); (focus (simp [Value.oneCell']; done))); (first | (simp only [maxLen]; omega) | (focus (simp [maxLen]; done))); (first | omega | (focus (simp; done)))) | (refine step_app (g := g4) (xs := css.flatten) (m := 1) (news := [.int .u32 (x0 : Nat), .slice (some ⟨w2.heap.size, 0, none⟩) 1 1]) rfl (.tmp 31) (.tmp 37) 36 36 rfl hE ?_ rfl rfl ?_ ?_ ?_ ?_; (try rw [Nat.zero_add]); (first | exact (Ho4.out.alloc _).alloc _ | exact Ho4.out.alloc _ | exact Ho4.out); (refine srcManyE Try.underlying36 _ [_, _] _ _ 2 _ ?_ rfl ?_; (first | rfl | omega | (focus (simp; done))); (focus (simp [Value.oneCell']; done))); (first | (simp only [maxLen]; omega) | (focus (simp [maxLen]; done))); (first | omega | (focus (simp; done)))) | (refine step_app (g := g4) (xs := css.flatten) (m := 1) (news := [.int .u32 (x0 : Nat), .slice (some ⟨w2.heap.size + 1, 0, none⟩) 1 1]) rfl (.tmp 31) (.tmp 37) 36 36 rfl hE ?_ rfl rfl ?_ ?_ ?_ ?_; (try rw [Nat.zero_add]); (first | exact (Ho4.out.alloc _).alloc _ | exact Ho4.out.alloc _ | exact Ho4.out); (refine srcBlk (t := 51) Try.underlying36 [_, _] 2 ?_ rfl ?_; (refine (Hon4.out.same _ ?_ ?_).trans ?_; (first | omega | (focus (simp; done)) | (simp; omega)); (first | (focus (simp; done)) | (simp; omega)); (focus (simp only [drew_heap, heap_alloc_ite, World.size_alloc, ↓IntWalk.iteOmega, if_true]; done))); (focus (simp [Value.oneCell']; done))); (first | (simp only [maxLen]; omega) | (focus (simp [maxLen]; done))); (first | omega | (focus (simp; done)))) | (refine step_app (g := g4) (xs := css.flatten) (m := 1) (news := [.int .u32 (x0 : Nat), .slice (some ⟨w2.heap.size, 0, none⟩) 1 1]) rfl (.tmp 31) (.tmp 37) 36 36 rfl hE ?_ rfl rfl ?_ ?_ ?_ ?_; (try rw [Nat.zero_add]); (first | exact (Ho4.out.alloc _).alloc _ | exact Ho4.out.alloc _ | exact Ho4.out); (refine srcBlk (t := 51) Try.underlying36 [_, _] 2 ?_ rfl ?_; (refine (Hon4.out.same _ ?_ ?_).trans ?_; (first | omega | (focus (simp; done)) | (simp; omega)); (first | (focus (simp; done)) | (simp; omega)); (focus (simp only [drew_heap, heap_alloc_ite, World.size_alloc, ↓IntWalk.iteOmega, if_true]; done))); (focus (simp [Value.oneCell']; done))); (first | (simp only [maxLen]; omega) | (focus (simp [maxLen]; done))); (first | omega | (focus (simp; done))))); intro ao5 cap5 g5 w5 ho5 hg5 hon5; have hB5 : Below w2.heap.size w2 w5 := HB4.out.trans ((by repeat (first | exact Below.refl _ _ | refine Below.drew ?_ | refine Below.alloc ?_ (by first | omega | (simp; try omega)) _) : Below w2.heap.size w4 _).trans (hon5.below (by first | omega | (simp; try omega)) (fun k hk e => by have := Hg4n.out k e; omega))); have e5 := ((bcell hB5).1 w.heap.size 0 (by omega)).trans e0; have b5 := ((bcell hB5).1 (w.heap.size + 1) 0 (by omega)).trans a0; have c5 := ((bcell hB5).1 (w.heap.size + 1) 1 (by omega)).trans a1; have hg5n : ∀ k, g5 = some k → w2.heap.size ≤ k := (fun k h => by rcases hg5 with e | e <;> rw [e] at h <;> first | exact Hg4n.out k h | (have h := Option.some.inj h; first | omega | (simp at h; omega))); have Hg5n := Lib.hid hg5n; have Ho5 := Lib.hid ho5; have Hon5 := Lib.hid hon5; have HB5 := Lib.hid hB5; clear ho5 hg5 hon5 hB5 hg5n)
        | fail "no arm")
    all_goals
      go_wp2_with fail
      go_ret
      have hB := HB2.out.trans (HB5.out.mono (by omega))
      have ho5 := Ho5.out
      try rw [Nat.zero_add] at ho5
      try rw [← Hlen.out] at ho5
      refine ⟨ao5, cap5, by rw [HWr.out]; first | (simp; done) | (have hl2 := Hlen.out; simp at hl2; simp [hl2]; done), by rw [HWr.out]; have := ho5.capLe.1; simpa using this, ho5.capLe.2, by rw [HWr.out]; exact with_new (x := (x0, x1, x2)) (ta := 59) Hall.out Hfp.out hB ho5 (by
        refine (Hon5.out.same _ ?_ ?_).trans ?_
        · first | omega | (simp; done) | (simp; omega) | skip
        · exact fun e => by first | (have := Ho4.out.lt _ e; omega) | (rcases Hg4.out with h | h <;> rw [h] at e <;> simp at e <;> omega)
        · first
            | (simp only [drew_heap, heap_alloc_ite, World.size_alloc, ↓IntWalk.iteOmega, if_true]; done)
            | (simp only [drew_heap, heap_alloc_ite, World.size_alloc, ↓IntWalk.iteOmega, if_true, if_false]; refine (Hon4.out.same _ ?_ ?_).trans ?_ <;> first | omega | (simp; done) | (simp; omega) | (simp only [drew_heap, heap_alloc_ite, World.size_alloc, ↓IntWalk.iteOmega, if_true]; done))
            | (refine (Hon4.out.same _ ?_ ?_).trans ?_ <;> first | omega | (simp; done) | (simp; omega) | (simp only [drew_heap, heap_alloc_ite, World.size_alloc, ↓IntWalk.iteOmega, if_true]; done))) Hx.out (fun b h => by have := Hg5n.out b h; omega) (by omega), hB⟩
  · obtain ⟨A, ⟨fr, arcs⟩, rfl⟩ : ∃ A r, l = A ++ [r] := by
      rcases List.eq_nil_or_concat l with h | ⟨A, r, h⟩
      · subst h; exact absurd rfl h0
      · exact ⟨A, r, by rw [h, List.concat_eq_append]⟩
    obtain ⟨b, off, ra, rc, rfl, hb, hc0, hc1, hfr, hrc, hrm, hra⟩ := hrd.row A.length (by simp)
    simp only [List.getElem_concat_length] at hc0 hc1 hfr hrc hra
    obtain ⟨ha0, ha1, hs1⟩ := hne A (fr, arcs) rfl
    simp only at ha0 ha1 hs1
    obtain ⟨css, hall, hsrc⟩ := hrd.srcAll oneRow (P := Try.prog) (tx := 36) Try.underlying36
    have hrdA := hrd.take A.length
    rw [List.take_left] at hrdA
    obtain ⟨cssA, hallA, hsrcA⟩ := hrdA.srcAll oneRow (P := Try.prog) (tx := 36) Try.underlying36
    have hlen : (A ++ [(fr, arcs)]).length = A.length + 1 := by simp
    rw [hlen] at hsrc hl hcap ⊢
    have hd : (((A.length : Nat) : Int) + 1 == 0) = false := by simp; omega
    have Hx := Lib.hid hx
    by_cases hf : fr = x0
    · subst hf
      have hq : ((fr : Int) != (fr : Int)) = false := by simp
      obtain ⟨B, ⟨t, y⟩, rfl⟩ : ∃ B r, arcs = B ++ [r] := by
        rcases List.eq_nil_or_concat arcs with h | ⟨A, r, h⟩
        · subst h; exact absurd ha0 (by simp)
        · exact ⟨A, r, by rw [h, List.concat_eq_append]⟩
      obtain ⟨cssB, hallB, hsrcB⟩ := hra.srcAll oneArc (P := Try.prog) (tx := 49) Try.underlying49
      have hlB : (B ++ [(t, y)]).length = B.length + 1 := by simp
      rw [hlB] at hsrcB hc1 hrc ha1
      have hs1 := hs1 rfl
      rw [sumA_append, sumA_one] at hs1
      simp only at hs1
      have hWr : withR (A ++ [(fr, B ++ [(t, y)])]) (fr, x1, x2) = A ++ [(fr, if t = x1 then B ++ [(t, y + x2)] else B ++ [(t, y)] ++ [(x1, x2)])] := by
        unfold withR
        rw [List.getLast?_concat]
        simp only [if_true, List.dropLast_concat]
        rw [addArc_snoc]
      have HWr := Lib.hid hWr
      have HsrcA := Lib.hid hsrcA
      have HsrcB := Lib.hid hsrcB
      have HallA := Lib.hid hallA
      have HallB := Lib.hid hallB
      have HAl : Hid (A.length = A.length) := Lib.hid rfl
      have HBl : Hid (B.length = B.length) := Lib.hid rfl
      have hn1 : A.length ≤ 100000 := by omega
      have hk1 : B.length ≤ 1000000 := by omega
      generalize hAn : A.length = n at hsrcA hc0 hc1 hcap hd hn1 hl HsrcA HAl ⊢
      generalize hBk : B.length = k at hsrcB hc1 hrc ha1 hk1 HsrcB HBl ⊢
      have HAn := Lib.hid hAn
      have HBk := Lib.hid hBk
      clear hall hsrc hrd hne hx hallA hsrcA hrdA hra ha0 hlen h0 hWr hallB hsrcB hAn hBk hlB
      go_enter Try.func42, Try.ntmps42
      go_wp2_with fail
      go_quiet (fail)
      go_wp2_with (at_builtin; refine wpList_app rfl (.tmp 45) (.tmp 47) 49 49 rfl hEa (Own.emptyAt _ 59 2 _ (by simp)) rfl rfl (HsrcB.out _ (((below_drewN ((ext_alloc w _).alloc (by simp) _) _).alloc (by simp; omega) _).alloc (by simp; omega) _) _) (by simp [maxLen]; omega) (by omega) ?_; intro ao3 cap3 g3 w3 ho3 hg3 hon3)
      have hB3 : Below (w.heap.size + 3) ((((w.alloc (Obj.cells #[Value.int IntKind.u32 (fr : Nat), Value.int IntKind.u32 (x1 : Nat), Value.int IntKind.u32 (x2 : Nat)] 24)).alloc (Obj.cells #[Value.int IntKind.u32 (x1 : Nat), Value.int IntKind.u32 (x2 : Nat)] 59)).drewN nq).alloc (Obj.cells #[Value.int IntKind.u32 (fr : Nat), Value.slice ra (k + 1) rc] 51)) w3 :=
        (ext_alloc _ _).mono (by simp) |>.trans (hon3.below (by simp) (fun j hj e => by cases e; simp at hj))
      have hBw : Below w.heap.size w w3 := (((below_drewN ((ext_alloc w _).alloc (by simp) _) _).alloc (by simp; omega) _)).trans (hB3.mono (by omega))
      have e0 := ((bcell hB3).1 w.heap.size 0 (by omega)).trans (show _ = some (Value.int .u32 (fr : Nat)) by simp [go_sem, ↓IntWalk.iteOmega])
      have e1 := ((bcell hB3).1 w.heap.size 1 (by omega)).trans (show _ = some (Value.int .u32 (x1 : Nat)) by simp [go_sem, ↓IntWalk.iteOmega])
      have e2 := ((bcell hB3).1 w.heap.size 2 (by omega)).trans (show _ = some (Value.int .u32 (x2 : Nat)) by simp [go_sem, ↓IntWalk.iteOmega])
      have a0 := ((bcell hB3).1 (w.heap.size + 1) 0 (by omega)).trans (show _ = some (Value.int .u32 (x1 : Nat)) by simp [go_sem, ↓IntWalk.iteOmega])
      have a1 := ((bcell hB3).1 (w.heap.size + 1) 1 (by omega)).trans (show _ = some (Value.int .u32 (x2 : Nat)) by simp [go_sem, ↓IntWalk.iteOmega])
      have hs3 := hB3.size
      simp at hs3
      rw [Nat.zero_add, List.nil_append] at ho3
      obtain ⟨bb, rfl, rfl, hbb⟩ := ho3.pos (by omega)
      have hO : OwnS arcRep (fun _ => False) w3 (some ⟨bb, 0, none⟩) cap3 (some bb) 59 (B ++ [(t, y)]) := ⟨cssB, by have e : (B ++ [(t, y)]).length = k + 1 := (by simp [HBk.out]); rw [e]; exact ho3, forall2_imp (fun _ _ h => arc_fp h) HallB.out⟩
      have hbn : w.heap.size + 3 ≤ bb := by
        rcases hg3 with h | h
        · simp at h; omega
        · simp at h; omega
      obtain ⟨m, z, hm, _, ⟨z1, z2, rfl, ⟨rfl, ht⟩, ⟨rfl, hy⟩⟩⟩ := all2_snoc HallB.out
      have hml : m.flatten.length = k * 2 := by
        have h1 := ho3.1
        rw [hm] at h1
        simp at h1
        simpa using (show m.flatten.length = k * 2 by simp; omega)
      have c0 : w3.cell? ⟨bb, k * 2, none⟩ = some (.int .u32 (t : Nat)) := by
        rw [ho3.cell (k * 2) (by omega), hm, List.flatten_append, List.getElem?_append_right (by omega), hml, Nat.sub_self]; rfl
      have c1 : w3.cell? ⟨bb, k * 2 + 1, none⟩ = some (.int .u32 (y : Nat)) := by
        rw [ho3.cell (k * 2 + 1) (by omega), hm, List.flatten_append, List.getElem?_append_right (by omega), hml, Nat.add_sub_cancel_left]; rfl
      have f1 : w3.frozen? ⟨bb, k * 2 + 1, none⟩ = false := ho3.frozen _
      have HO := Lib.hid hO
      have HBw := Lib.hid hBw
      have HO3 := Lib.hid ho3
      have hk2 : (0 : Int) ≤ (k : Int) := by omega
      clear hB3 ho3 hg3 hon3 hO hBw hm hml hc0 hc1 hs3
      by_cases htx : t = x1
      · have hq2 : ((t : Int) == (x1 : Int)) = true := by simp [htx]
        rw [if_pos htx] at HWr
        clear htx
        go_wp2_with fail
        go_quiet (fail)
        go_wp2_with fail
        have hib : (k : Int) < ((k + 1 : Nat) : Int) := by omega
        have hib2 : (k : Int) < (k : Int) + 1 := by omega
        have hkw : IntKind.i64.wrap (k : Int) = (k : Int) := IntWalk.i64_in _ (by omega)
        refine wp_region_still_tail 16 (by kernel_rfl) (by kernel_rfl) ?_
        change wpStill _ _ (World.drew _) _ _ _
        simp only [List.take_succ_cons, List.take_zero, List.drop_succ_cons, List.drop_zero]
        repeat still_step
        refine wpStill_nil ?_
        clear hkw
        have hB7 : Below w.heap.size w ((w3.drewN (nq + 1)).setCell ⟨bb, k * 2 + 1, none⟩ (.int .u32 ((y : Int) + (x2 : Int)))) := (HBw.out.trans ((ext_drewN w3 (nq + 1)).mono HBw.out.size)).setCell (by simp; omega) _
        have e7 : ((w3.drewN (nq + 1)).setCell ⟨bb, k * 2 + 1, none⟩ (.int .u32 ((y : Int) + (x2 : Int)))).cell? ⟨w.heap.size, 0, none⟩ = some (.int .u32 (fr : Nat)) := by
          have hne : ¬ w.heap.size = bb := by omega
          simp [go_sem, cell_set_ite, hne, e0]
        have hO7 : OwnS arcRep (fun _ => False) ((w3.drewN (nq + 1)).setCell ⟨bb, k * 2 + 1, none⟩ (.int .u32 ((y : Int) + (x2 : Int)))) (some ⟨bb, 0, none⟩) cap3 (some bb) 59 (B ++ [(t, y + x2)]) := by
          have h := (HO.out.ext (ext_drewN w3 (nq + 1))).arcAdd (z := y + x2) (by omega)
          rw [HBk.out, Int.natCast_add] at h
          exact h
        have hs7 : w.heap.size + 3 ≤ ((w3.drewN (nq + 1)).setCell ⟨bb, k * 2 + 1, none⟩ (.int .u32 ((y : Int) + (x2 : Int)))).heap.size := by simp; omega
        have HB7 := Lib.hid hB7
        have HWs : Hid (w.heap.size ≤ ((w3.drewN (nq + 1)).setCell ⟨bb, k * 2 + 1, none⟩ (.int .u32 ((y : Int) + (x2 : Int)))).heap.size) := Lib.hid hB7.size
        have HO7 := Lib.hid hO7
        have hL : (B ++ [(t, y + x2)]).length = k + 1 := by simp [HBk.out]
        have HL := Lib.hid hL
        clear hB7 hO7 hL
        change wpList _ _ _ _ _ (World.drew _)
        go_wp2_with (first
          | (at_builtin; refine wpList_app rfl (.tmp 79) (.tmp 84) 36 36 rfl hE (Own.emptyAt _ 51 2 _ (by simp)) rfl rfl (HsrcA.out _ (HB7.out.alloc (HB7.out).size _) _) (by simp [maxLen]; omega) (by omega) ?_; intro ao8 cap8 g8 w8 ho8 hg8 hon8; rw [Nat.zero_add, List.nil_append] at ho8; have hB8 := (ext_alloc ((w3.drewN (nq + 1)).setCell ⟨bb, k * 2 + 1, none⟩ (.int .u32 ((y : Int) + (x2 : Int)))) _).trans (hon8.below (by simp) (fun j hj e => by have := Option.some.inj e; first | omega | (simp at hj this; omega) | (simp at hj; omega) | (simp at this; omega))); have e8 := ((bcell hB8).1 w.heap.size 0 (by omega)).trans e7; have hs8 := hB8.size; have Ho8 := Lib.hid ho8; have HB8 := Lib.hid hB8; have hg8n : ∀ j, g8 = some j → ((w3.drewN (nq + 1)).setCell ⟨bb, k * 2 + 1, none⟩ (.int .u32 ((y : Int) + (x2 : Int)))).heap.size ≤ j := (fun j h => by rcases hg8 with e | e <;> rw [e] at h <;> have h := Option.some.inj h <;> first | omega | (simp at h ⊢; omega) | (simp; omega)); have Hg8n := Lib.hid hg8n; clear ho8 hB8 hg8 hon8 hg8n)
          | (at_builtin; refine wpList_app rfl (.tmp 86) (.tmp 91) 36 36 rfl hE (Ho8.out.alloc _) rfl rfl (srcManyE Try.underlying36 _ [_, _] _ _ 2 _ (by simp) rfl (by simp [Value.oneCell'])) (by simp [maxLen]; omega) (by omega) ?_; intro ao9 cap9 g9 w9 ho9 hg9 hon9; have hg9n : ∀ j, g9 = some j → w.heap.size ≤ j := (fun j h => by rcases hg9 with e | e <;> rw [e] at h <;> first | exact Nat.le_trans HWs.out (Hg8n.out j h) | (have h := Option.some.inj h; first | omega | (simp at h; omega) | (have := HWs.out; simp at this h hs8; omega))); have Hg9n := Lib.hid hg9n; have Ho9 := Lib.hid ho9; have Hon9 := Lib.hid hon9; clear ho9 hg9 hon9 hg9n))
        go_ret
        have hL := HL.out
        refine ⟨ao9, cap9, by rw [HWr.out]; simp [HAn.out], by rw [HWr.out]; have := Ho9.out.capLe.1; simpa [HAn.out] using this, Ho9.out.capLe.2, ?_, ?_⟩
        · rw [HWr.out]
          have ho9 := Ho9.out
          have hB89 : Below ((w3.drewN (nq + 1)).setCell ⟨bb, k * 2 + 1, none⟩ (.int .u32 ((y : Int) + (x2 : Int)))).heap.size ((w3.drewN (nq + 1)).setCell ⟨bb, k * 2 + 1, none⟩ (.int .u32 ((y : Int) + (x2 : Int)))) w9 := HB8.out.trans ((ext_alloc w8 _).mono hs8 |>.trans (Hon9.out.below (by first | omega | (simp; omega) | (simp at hs8 ⊢; omega)) (fun j hj e => by have := Hg8n.out j e; omega)))
          refine with_last HallA.out Hfp.out (HB7.out.trans (hB89.mono (HB7.out).size)) (by rw [HAn.out]; have h := ho9; rw [← hL] at h; exact h) ((HO7.out.rd.mono (fun b h _ => h.elim (fun h => h.elim) (fun h => by cases h; omega))).keep (fun b _ hl => hB89.block b hl) hB89.size) (HO7.out.capLe).1 (HO7.out.capLe).2 hfr (fun b h => by have := Hg9n.out b h; have := (HB7.out).size; omega)
        · exact HB7.out.trans ((HB8.out.trans ((ext_alloc w8 _).mono hs8 |>.trans (Hon9.out.below (by first | omega | (simp; omega) | (simp at hs8 ⊢; omega)) (fun j hj e => by have := Hg8n.out j e; omega)))).mono (HB7.out).size)
      · have hq2 : ((t : Int) == (x1 : Int)) = false := by simp; omega
        rw [if_neg htx] at HWr
        clear htx
        go_wp2_with fail
        go_quiet (fail)
        go_wp2_with (first
          | (at_builtin; refine wpList_app rfl (.tmp 75) (.tmp 77) 49 49 rfl hEa ((HO3.out.ext (ext_drewN _ _)).alloc _) rfl rfl (srcManyE Try.underlying49 _ [_, _] _ _ 2 _ (by simp) rfl (by simp [Value.oneCell'])) (by simp [maxLen]; omega) (by omega) ?_; intro ao4 cap4 g4 w4 ho4 hg4 hon4; have hB4 : Below (w.heap.size + 3) w3 w4 := (((ext_drewN w3 _).alloc (by simp) _).mono (by omega)).trans (hon4.below (by simp; omega) (fun j hj e => by have := Option.some.inj e; omega)); have e4 := ((bcell hB4).1 w.heap.size 0 (by omega)).trans e0; have hB4w := HBw.out.trans (hB4.mono (by omega)); have HWs := Lib.hid hB4w.size; have hg4n : ∀ j, g4 = some j → w.heap.size ≤ j := (fun j h => by rcases hg4 with e | e <;> rw [e] at h <;> have h := Option.some.inj h <;> first | omega | (simp at h; omega)); have Hg4n := Lib.hid hg4n; clear hg4n; have Ho4 := Lib.hid ho4; have HB4 := Lib.hid hB4w; have hs4 := hB4.size; clear ho4 hg4 hon4 hB4 hB4w c0 c1 f1 e0 e1 e2 a0 a1)
          | (at_builtin; refine wpList_app rfl (.tmp 79) (.tmp 84) 36 36 rfl hE (Own.emptyAt _ 51 2 _ (by simp)) rfl rfl (HsrcA.out _ (HB4.out.alloc (HB4.out).size _) _) (by simp [maxLen]; omega) (by omega) ?_; intro ao8 cap8 g8 w8 ho8 hg8 hon8; rw [Nat.zero_add, List.nil_append] at ho8; have hB8 := (ext_alloc w4 _).trans (hon8.below (by simp) (fun j hj e => by have := Option.some.inj e; first | omega | (simp at hj this; omega) | (simp at hj; omega) | (simp at this; omega))); have e8 := ((bcell hB8).1 w.heap.size 0 (by omega)).trans e4; have hs8 := hB8.size; have Ho8 := Lib.hid ho8; have HB8 := Lib.hid hB8; have hg8n : ∀ j, g8 = some j → w4.heap.size ≤ j := (fun j h => by rcases hg8 with e | e <;> rw [e] at h <;> have h := Option.some.inj h <;> first | omega | (simp at h ⊢; omega) | (simp; omega)); have Hg8n := Lib.hid hg8n; clear ho8 hB8 hg8 hon8 hg8n)
          | (at_builtin; refine wpList_app rfl (.tmp 86) (.tmp 91) 36 36 rfl hE (Ho8.out.alloc _) rfl rfl (srcManyE Try.underlying36 _ [_, _] _ _ 2 _ (by simp) rfl (by simp [Value.oneCell'])) (by simp [maxLen]; omega) (by omega) ?_; intro ao9 cap9 g9 w9 ho9 hg9 hon9; have hg9n : ∀ j, g9 = some j → w.heap.size ≤ j := (fun j h => by rcases hg9 with e | e <;> rw [e] at h <;> first | exact Nat.le_trans HWs.out (Hg8n.out j h) | (have h := Option.some.inj h; first | omega | (simp at h; omega) | (have := HWs.out; simp at this h hs8; omega))); have Hg9n := Lib.hid hg9n; have Ho9 := Lib.hid ho9; have Hon9 := Lib.hid hon9; clear ho9 hg9 hon9 hg9n))
        go_ret
        have hL : (B ++ [(t, y)] ++ [(x1, x2)]).length = k + 1 + 1 := by simp [HBk.out]
        have hO4 : OwnS arcRep (fun _ => False) w4 ao4 cap4 g4 59 (B ++ [(t, y)] ++ [(x1, x2)]) := ⟨cssB ++ [arcCs (x1, x2)], by rw [hL]; simpa using (show Own w4 ao4 cap4 g4 59 arcRep.size (k + 1 + 1) (cssB.flatten ++ arcCs (x1, x2)) from Ho4.out), all2_append (forall2_imp (fun _ _ h => arc_fp h) HallB.out) (.cons (arcRep_ok ⟨Hx.out.2.1, Hx.out.2.2⟩) .nil)⟩
        refine ⟨ao9, cap9, by rw [HWr.out]; simp [HAn.out], by rw [HWr.out]; have := Ho9.out.capLe.1; simpa [HAn.out] using this, Ho9.out.capLe.2, ?_, ?_⟩
        · rw [HWr.out]
          have ho9 := Ho9.out
          have hB89 : Below w4.heap.size w4 w9 := HB8.out.trans ((ext_alloc w8 _).mono hs8 |>.trans (Hon9.out.below (by first | omega | (simp; omega) | (simp at hs8 ⊢; omega)) (fun j hj e => by have := Hg8n.out j e; omega)))
          refine with_last HallA.out Hfp.out (HB4.out.trans (hB89.mono (HB4.out).size)) (by rw [HAn.out]; have h := ho9; rw [← hL] at h; exact h) ((hO4.rd.mono (fun b h _ => h.elim (fun h => h.elim) (fun h => Hg4n.out b h))).keep (fun b _ hl => hB89.block b hl) hB89.size) (hO4.capLe).1 (hO4.capLe).2 hfr (fun b h => by have := Hg9n.out b h; have := (HB4.out).size; omega)
        · exact HB4.out.trans ((HB8.out.trans ((ext_alloc w8 _).mono hs8 |>.trans (Hon9.out.below (by first | omega | (simp; omega) | (simp at hs8 ⊢; omega)) (fun j hj e => by have := Hg8n.out j e; omega)))).mono (HB4.out).size)
    · have hq : ((fr : Int) != (x0 : Int)) = true := by simp; omega
      have HWr := Lib.hid (show withR (A ++ [(fr, arcs)]) (x0, x1, x2) = (A ++ [(fr, arcs)]) ++ [(x0, [(x1, x2)])] by
        unfold withR
        rw [List.getLast?_concat]
        simp only
        rw [if_neg hf])
      have Hlen := Lib.hid hlen
      have Hsrc := Lib.hid hsrc
      have Hall := Lib.hid hall
      generalize A.length = n at *
      clear hall hsrc hrd hne hx hallA hsrcA hrdA hf hra ha0 ha1 hs1 hlen h0
      go_enter Try.func42, Try.ntmps42
      go_wp2_with fail
      go_quiet (fail)
      go_wp2_with fail
      obtain ⟨w2, hw2⟩ : ∃ w2, ((w.alloc (Obj.cells #[Value.int IntKind.u32 (x0 : Nat), Value.int IntKind.u32 (x1 : Nat), Value.int IntKind.u32 (x2 : Nat)] 24)).alloc (Obj.cells #[Value.int IntKind.u32 (x1 : Nat), Value.int IntKind.u32 (x2 : Nat)] 59)).drewN nq = w2 := ⟨_, rfl⟩
      have hB2 : Below w.heap.size w w2 := by rw [← hw2]; exact below_drewN ((ext_alloc w _).alloc (by simp) _) _
      have hs2 : w.heap.size + 2 ≤ w2.heap.size := by rw [← hw2]; simp
      have e0 : w2.cell? ⟨w.heap.size, 0, none⟩ = some (.int .u32 (x0 : Nat)) := by rw [← hw2]; simp [go_sem, ↓IntWalk.iteOmega]
      have a0 : w2.cell? ⟨w.heap.size + 1, 0, none⟩ = some (.int .u32 (x1 : Nat)) := by rw [← hw2]; simp [go_sem, ↓IntWalk.iteOmega]
      have a1 : w2.cell? ⟨w.heap.size + 1, 1, none⟩ = some (.int .u32 (x2 : Nat)) := by rw [← hw2]; simp [go_sem, ↓IntWalk.iteOmega]
      rw [hw2]
      have HB2 := Lib.hid hB2
      clear hw2 hB2
      go_region_held3 (fun w' => w'.cell? ⟨w.heap.size, 0, none⟩ = some (.int .u32 (x0 : Nat)) ∧ w'.cell? ⟨w.heap.size + 1, 0, none⟩ = some (.int .u32 (x1 : Nat)) ∧ w'.cell? ⟨w.heap.size + 1, 1, none⟩ = some (.int .u32 (x2 : Nat))) (first | exact ⟨e0, a0, a1⟩ | exact ⟨e4, b4, c4⟩ | exact ⟨e5, b5, c5⟩ | (refine ⟨?_, ?_, ?_⟩ <;> simp [go_sem, ↓IntWalk.iteOmega, e0, a0, a1]; done) | (refine ⟨?_, ?_, ?_⟩ <;> simp [go_sem, ↓IntWalk.iteOmega, e4, b4, c4]; done) | go_keep)
        (first
          | (refine step_app rfl (.tmp 29) (.tmp 30) 36 36 rfl hE (own_empty (by simp only [drew_heap, heap_alloc_ite, World.size_alloc, ↓IntWalk.iteOmega, if_true])) rfl rfl (Hsrc.out _ (HB2.out.trans ((by repeat (first | exact Below.refl _ _ | refine Below.drew ?_ | refine Below.alloc ?_ (by first | omega | (simp; try omega)) _) : Below w2.heap.size w2 _).mono (by omega))) _) (by first | (simp only [maxLen]; omega) | (simp [maxLen]; done)) (by first | omega | (simp; done)) ?_; intro ao4 cap4 g4 w4 ho4 hg4 hon4; rw [Nat.zero_add, List.nil_append] at ho4; have hB4 : Below w2.heap.size w2 w4 := Below.trans (by repeat (first | exact Below.refl _ _ | refine Below.drew ?_ | refine Below.alloc ?_ (by first | omega | (simp; try omega)) _)) (hon4.below (by simp; try omega) (fun k hk e => by cases e; omega)); have e4 := ((bcell hB4).1 w.heap.size 0 (by omega)).trans e0; have b4 := ((bcell hB4).1 (w.heap.size + 1) 0 (by omega)).trans a0; have c4 := ((bcell hB4).1 (w.heap.size + 1) 1 (by omega)).trans a1; have Ho4 := Lib.hid ho4; have Hg4 := Lib.hid hg4; have Hon4 := Lib.hid hon4; have hg4n : ∀ k, g4 = some k → w2.heap.size ≤ k := (fun k h => by rcases hg4 with e | e <;> rw [e] at h <;> cases h <;> first | omega | (simp; done) | (simp; omega)); have Hg4n := Lib.hid hg4n; clear hg4n; have hs4 := hon4.size; simp at hs4; have HB4 := Lib.hid hB4; clear ho4 hg4 hon4 hB4)
          | ((first | (refine step_app (g := g4) (xs := css.flatten) (m := 1) (news := [.int .u32 (x0 : Nat), .slice (some ⟨w4.heap.size, 0, none⟩) 1 1]) rfl (.tmp 31) (.tmp 37) 36 36 rfl hE ?_ rfl rfl ?_ ?_ ?_ ?_; (try rw [Nat.zero_add]); (first | exact (Ho4.out.alloc _).alloc _ | exact Ho4.out.alloc _ | exact Ho4.out); (refine srcManyE Try.underlying36 _ [_, _] _ _ 2 _ ?_ rfl ?_; (first | rfl | omega | (focus (simp; done))); (focus (simp [Value.oneCell']; done))); (first | (simp only [maxLen]; omega) | (focus (simp [maxLen]; done))); (first | omega | (focus (simp; done)))) | (refine step_app (g := g4) (xs := css.flatten) (m := 1) (news := [.int .u32 (x0 : Nat), .slice (some ⟨w2.heap.size + 1, 0, none⟩) 1 1]) rfl (.tmp 31) (.tmp 37) 36 36 rfl hE ?_ rfl rfl ?_ ?_ ?_ ?_; (try rw [Nat.zero_add]); (first | exact (Ho4.out.alloc _).alloc _ | exact Ho4.out.alloc _ | exact Ho4.out); (refine srcManyE Try.underlying36 _ [_, _] _ _ 2 _ ?_ rfl ?_; (first | rfl | omega | (focus (simp; done))); (focus (simp [Value.oneCell']; done))); (first | (simp only [maxLen]; omega) | (focus (simp [maxLen]; done))); (first | omega | (focus (simp; done)))) | (refine step_app (g := g4) (xs := css.flatten) (m := 1) (news := [.int .u32 (x0 : Nat), .slice (some ⟨w2.heap.size, 0, none⟩) 1 1]) rfl (.tmp 31) (.tmp 37) 36 36 rfl hE ?_ rfl rfl ?_ ?_ ?_ ?_; (try rw [Nat.zero_add]); (first | exact (Ho4.out.alloc _).alloc _ | exact Ho4.out.alloc _ | exact Ho4.out); (refine srcManyE Try.underlying36 _ [_, _] _ _ 2 _ ?_ rfl ?_; (first | rfl | omega | (focus (simp; done))); (focus (simp [Value.oneCell']; done))); (first | (simp only [maxLen]; omega) | (focus (simp [maxLen]; done))); (first | omega | (focus (simp; done)))) | (refine step_app (g := g4) (xs := css.flatten) (m := 1) (news := [.int .u32 (x0 : Nat), .slice (some ⟨w2.heap.size + 1, 0, none⟩) 1 1]) rfl (.tmp 31) (.tmp 37) 36 36 rfl hE ?_ rfl rfl ?_ ?_ ?_ ?_; (try rw [Nat.zero_add]); (first | exact (Ho4.out.alloc _).alloc _ | exact Ho4.out.alloc _ | exact Ho4.out); (refine srcBlk (t := 51) Try.underlying36 [_, _] 2 ?_ rfl ?_; (refine (Hon4.out.same _ ?_ ?_).trans ?_; (first | omega | (focus (simp; done)) | (simp; omega)); (first | (focus (simp; done)) | (simp; omega)); (focus (simp only [drew_heap, heap_alloc_ite, World.size_alloc, ↓IntWalk.iteOmega, if_true]; done))); (focus (simp [Value.oneCell']; done))); (first | (simp only [maxLen]; omega) | (focus (simp [maxLen]; done))); (first | omega | (focus (simp; done)))) | (refine step_app (g := g4) (xs := css.flatten) (m := 1) (news := [.int .u32 (x0 : Nat), .slice (some ⟨w2.heap.size, 0, none⟩) 1 1]) rfl (.tmp 31) (.tmp 37) 36 36 rfl hE ?_ rfl rfl ?_ ?_ ?_ ?_; (try rw [Nat.zero_add]); (first | exact (Ho4.out.alloc _).alloc _ | exact Ho4.out.alloc _ | exact Ho4.out); (refine srcBlk (t := 51) Try.underlying36 [_, _] 2 ?_ rfl ?_; (refine (Hon4.out.same _ ?_ ?_).trans ?_; (first | omega | (focus (simp; done)) | (simp; omega)); (first | (focus (simp; done)) | (simp; omega)); (focus (simp only [drew_heap, heap_alloc_ite, World.size_alloc, ↓IntWalk.iteOmega, if_true]; done))); (focus (simp [Value.oneCell']; done))); (first | (simp only [maxLen]; omega) | (focus (simp [maxLen]; done))); (first | omega | (focus (simp; done))))); intro ao5 cap5 g5 w5 ho5 hg5 hon5; have hB5 : Below w2.heap.size w2 w5 := HB4.out.trans ((by repeat (first | exact Below.refl _ _ | refine Below.drew ?_ | refine Below.alloc ?_ (by first | omega | (simp; try omega)) _) : Below w2.heap.size w4 _).trans (hon5.below (by first | omega | (simp; try omega)) (fun k hk e => by have := Hg4n.out k e; omega))); have e5 := ((bcell hB5).1 w.heap.size 0 (by omega)).trans e0; have b5 := ((bcell hB5).1 (w.heap.size + 1) 0 (by omega)).trans a0; have c5 := ((bcell hB5).1 (w.heap.size + 1) 1 (by omega)).trans a1; have hg5n : ∀ k, g5 = some k → w2.heap.size ≤ k := (fun k h => by rcases hg5 with e | e <;> rw [e] at h <;> first | exact Hg4n.out k h | (have h := Option.some.inj h; first | omega | (simp at h; omega))); have Hg5n := Lib.hid hg5n; have Ho5 := Lib.hid ho5; have Hon5 := Lib.hid hon5; have HB5 := Lib.hid hB5; clear ho5 hg5 hon5 hB5 hg5n)
          | fail "no arm")
      all_goals
        go_wp2_with fail
        go_ret
        have hB := HB2.out.trans (HB5.out.mono (by omega))
        have ho5 := Ho5.out
        try rw [Nat.zero_add] at ho5
        try rw [← Hlen.out] at ho5
        refine ⟨ao5, cap5, by rw [HWr.out]; first | (simp; done) | (have hl2 := Hlen.out; simp at hl2; simp [hl2]; done), by rw [HWr.out]; have := ho5.capLe.1; simpa using this, ho5.capLe.2, by rw [HWr.out]; exact with_new (x := (x0, x1, x2)) (ta := 59) Hall.out Hfp.out hB ho5 (by
          refine (Hon5.out.same _ ?_ ?_).trans ?_
          · first | omega | (simp; done) | (simp; omega) | skip
          · exact fun e => by first | (have := Ho4.out.lt _ e; omega) | (rcases Hg4.out with h | h <;> rw [h] at e <;> simp at e <;> omega)
          · first
              | (simp only [drew_heap, heap_alloc_ite, World.size_alloc, ↓IntWalk.iteOmega, if_true]; done)
              | (simp only [drew_heap, heap_alloc_ite, World.size_alloc, ↓IntWalk.iteOmega, if_true, if_false]; refine (Hon4.out.same _ ?_ ?_).trans ?_ <;> first | omega | (simp; done) | (simp; omega) | (simp only [drew_heap, heap_alloc_ite, World.size_alloc, ↓IntWalk.iteOmega, if_true]; done))
              | (refine (Hon4.out.same _ ?_ ?_).trans ?_ <;> first | omega | (simp; done) | (simp; omega) | (simp only [drew_heap, heap_alloc_ite, World.size_alloc, ↓IntWalk.iteOmega, if_true]; done))) Hx.out (fun b h => by have := Hg5n.out b h; omega) (by omega), hB⟩
end Go.Proofs.Ytafbjkbdfdeacaa
