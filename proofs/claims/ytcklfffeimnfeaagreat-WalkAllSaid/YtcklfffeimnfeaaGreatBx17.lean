/- Texts merged into one: BuildW, ABuildW, AliasT5, CountsW, MayTW. -/
import Derived.Test.YtcklfffeimnfeaaGreatBx16
import Derived.Test.YtcklfffeimnfeaaGreatBx15
import Derived.Test.YtcklfffeimnfeaaGreatBx06
import Derived.Laws.MakeOwn
import Derived.WalkMore
import Derived.StillTailTactics
set_option maxRecDepth 100000
set_option maxHeartbeats 12800000
set_option linter.unusedSimpArgs false
set_option linter.unusedVariables false
namespace Go.Proofs.YtcklfffeimnfeaaGreat
open Go.RowKit

theorem u64Elem : Elem Tryz.prog 106 23 1 8 (.int .u64 0) := Elem.mk' Tryz.underlying106 (by kernel_rfl) rfl (by decide)
theorem cellElem : Elem Tryz.prog 61 108 2 16 (.agg #[.int .u64 0, .int .u32 0]) := Elem.mk' Tryz.underlying61 (by kernel_rfl) rfl (by decide)
theorem srcManyC {P : Program} {tx e' : TypeId} (hk : P.underlying tx = some (.slice e')) (w : World) (cs : List Value) (t : TypeId) (k size n : Nat) (hn : n = w.heap.size) (hs : cs.length = size) (h1 : ∀ u ∈ cs, u.oneCell' = true) :
    Src P size tx (.slice (some ⟨n, 0, none⟩) 1 k) 1 cs (w.alloc (.cells cs.toArray t)) := by
  subst hn
  exact Src.ofSlice (w.alloc (.cells cs.toArray t)) hk ⟨w.heap.size, 0, none⟩ 1 k cs (by omega) (fun j u hu => by
    rw [Addr.add_lit, Nat.zero_add, World.cell?_alloc_new]
    simpa using hu) h1
/-- one cell of what is owned -/
def cellCs (x : CellD) : List Value := [.int .u64 (x.1 : Nat), .int .u32 (x.2 : Nat)]
def cellsOf (T : List CellD) : List Value := (T.map cellCs).flatten
theorem cellsOf_snoc (T : List CellD) (c : CellD) : cellsOf (T ++ [c]) = cellsOf T ++ cellCs c := by simp [cellsOf]
theorem cellsOf_set : ∀ (T : List CellD) (i : Nat) (c : CellD), ((cellsOf T).set (i * 2) (.int .u64 (c.1 : Nat))).set (i * 2 + 1) (.int .u32 (c.2 : Nat)) = cellsOf (T.set i c)
  | [], i, c => rfl
  | x :: T, 0, c => by simp [cellsOf, cellCs]
  | x :: T, i + 1, c => by
    have h := cellsOf_set T i c
    simp only [cellsOf, cellCs, List.map_cons, List.flatten_cons, List.set_cons_succ, List.cons_append, List.nil_append, show (i + 1) * 2 = i * 2 + 1 + 1 by omega] at h ⊢
    rw [h]
theorem cellRep_ok {W : World} {fp : Nat → Prop} {x : CellD} (h : okC x) : cellRep.ok W fp x (cellCs x) := ⟨[_], [_], rfl, ⟨rfl, h.1⟩, ⟨rfl, h.2⟩⟩
theorem all2_cells {W : World} {fp : Nat → Prop} : ∀ {T : List CellD}, (∀ c ∈ T, okC c) → All2 (fun x cs => cellRep.ok W fp x cs) T (T.map cellCs)
  | [], _ => .nil
  | x :: T, h => .cons (cellRep_ok (h x (by simp))) (all2_cells fun c hc => h c (by simp [hc]))
/-- what a call that builds a table for n arcs leaves -/
def BuildRet (n : Nat) (w : World) (e : Ending) (w' : World) : Prop :=
  ∃ (T : List CellD) (ao : Option Addr) (cap : Nat), e = .returned (.slice ao n cap) ∧ T.length = n ∧ (∀ c ∈ T, c.2 < n) ∧ n ≤ cap ∧ cap ≤ maxLen ∧ RdS cellRep (fun b => w.heap.size ≤ b) w' ao T ∧ Below w.heap.size w w'
theorem BuildRet.ext {n : Nat} {w wp w3 : World} {e : Ending} (h : BuildRet n w e wp) (hB : Below wp.heap.size wp w3) : BuildRet n w e w3 := by
  obtain ⟨T, ao, cap, h1, h2, h3, h4, h5, h6, h7⟩ := h
  exact ⟨T, ao, cap, h1, h2, h3, h4, h5, h6.ext hB, h7.trans (hB.mono h7.size)⟩
/-- the two rows, so many in each -/
def BI (n k : Nat) (w : World) (v4 v5 : Value) (wr : World) : Prop :=
  ∃ (L : List Nat) (T : List CellD) (a4 a5 : Option Addr) (c4 c5 : Nat) (g4 g5 : Option Nat), v4 = .slice a4 k c4 ∧ v5 = .slice a5 k c5 ∧ L.length = k ∧ T.length = k ∧ ok64 L ∧ (∀ c ∈ T, okC c ∧ c.2 < n) ∧
    Own wr a4 c4 g4 23 1 k (u64v L) ∧ Own wr a5 c5 g5 108 2 k (cellsOf T) ∧ (∀ b, g4 = some b → w.heap.size ≤ b ∧ g5 ≠ some b) ∧ (∀ b, g5 = some b → w.heap.size ≤ b) ∧ Below w.heap.size w wr
def BI1 (n : Nat) (w : World) (v4 v5 i : Value) (wr : World) : Prop := ∃ k : Nat, k ≤ n ∧ i = .int .i64 (k : Nat) ∧ BI n k w v4 v5 wr
def BI2 (n : Nat) (w : World) (v4 v5 : Value) (i : Value) (wr : World) : Prop := ∃ k : Nat, k ≤ n + 1 ∧ i = .int .i64 (k : Nat) ∧ BI n n w v4 v5 wr
theorem BI.ret {n : Nat} {w wr : World} {v4 v5 : Value} (h : BI n n w v4 v5 wr) : BuildRet n w (.returned v5) wr := by
  obtain ⟨L, T, a4, a5, c4, c5, g4, g5, rfl, rfl, hL, hT, _, hc, _, ho, _, hg, hB⟩ := h
  have hS : OwnS cellRep (fun _ => False) wr a5 c5 g5 108 T := ⟨T.map cellCs, by rw [hT]; exact ho, all2_cells fun c h => (hc c h).1⟩
  exact ⟨T, a5, c5, rfl, hT, fun c h => (hc c h).2, ho.capLe.1, ho.capLe.2, hS.rd.mono (fun b hb _ => hb.elim (fun h => h.elim) (hg b)), hB⟩
theorem BI.start {w : World} (n : Nat) {w' : World} (hB : Below w.heap.size w w') :
    BI n 0 w (.slice (some ⟨w'.heap.size, 0, none⟩) 0 0) (.slice (some ⟨w'.heap.size + 1, 0, none⟩) 0 0) ((w'.alloc (.cells #[] 23)).alloc (.cells #[] 108)) :=
  ⟨[], [], _, _, 0, 0, some w'.heap.size, some (w'.heap.size + 1), rfl, rfl, rfl, rfl, (fun x h => by simp at h), (fun x h => by simp at h), (Own.emptyAt w' 23 1 _ rfl).alloc _, Own.emptyAt _ 108 2 _ (by simp),
    (fun b h => by cases h; exact ⟨hB.size, fun e => by simp at e⟩), (fun b h => by cases h; have := hB.size; omega), (hB.alloc hB.size _).alloc (by simp; have := hB.size; omega) _⟩
/-- one more in each -/
theorem BI.more {n k : Nat} {w wr w1 w2 : World} {L : List Nat} {T : List CellD} {a5 a4' a5' : Option Addr} {c5 c4' c5' : Nat} {g4 g5 g4' g5' : Option Nat} {o1 o2 : Obj} {r i : Int} (m q : Nat) (hL : L.length = k) (hT : T.length = k) (h64 : ok64 L) (hc : ∀ c ∈ T, okC c ∧ c.2 < n)
    (hg4 : ∀ b, g4 = some b → w.heap.size ≤ b ∧ g5 ≠ some b) (hg5 : ∀ b, g5 = some b → w.heap.size ≤ b) (hB : Below w.heap.size w wr) (h5 : Own wr a5 c5 g5 108 2 k (cellsOf T)) (h5n : ∀ b, g5 = some b → b < wr.heap.size)
    (ho4 : Own w1 a4' c4' g4' 23 1 (k + 1) (u64v L ++ [.int .u64 r])) (hh4 : g4' = g4 ∨ g4' = some (wr.alloc o1).heap.size) (hon4 : Only (fun b => g4 = some b) (wr.alloc o1) w1)
    (ho5 : Own w2 a5' c5' g5' 108 2 (k + 1) (cellsOf T ++ [.int .u64 (q : Nat), .int .u32 i])) (hh5 : g5' = g5 ∨ g5' = some (w1.alloc o2).heap.size) (hon5 : Only (fun b => g5 = some b) (w1.alloc o2) w2)
    (hr : r = (m : Nat)) (hm : m < 18446744073709551616) (hi : i = (k : Nat)) (hkn : k < n) (hn : n ≤ 1000000) (hq : q < 18446744073709551616) :
    BI n (k + 1) w (.slice a4' (k + 1) c4') (.slice a5' (k + 1) c5') w2 := by
  subst hr hi
  have s1 := hB.size
  have s2 := hon4.size
  have s3 := hon5.size
  simp only [World.size_alloc] at s2 s3
  have l4 := ho4.lt
  have hne : ∀ b, g4' = some b → w.heap.size ≤ b ∧ g5 ≠ some b := fun b hb => by
    rcases hh4 with e | e <;> rw [e] at hb
    · exact hg4 b hb
    · cases hb
      refine ⟨by simp; omega, fun h => ?_⟩
      have := h5n _ h
      simp at this
      omega
  refine ⟨L ++ [m], T ++ [(q, k)], a4', a5', c4', c5', g4', g5', rfl, rfl, by simp [hL], by simp [hT], ?_, ?_, ?_, ?_, fun b hb => ⟨(hne b hb).1, fun h => ?_⟩, fun b hb => ?_, ?_⟩
  · intro x hx
    rcases List.mem_append.1 hx with h | h
    · exact h64 x h
    · simp at h; omega
  · intro x hx
    rcases List.mem_append.1 hx with h | h
    · exact hc x h
    · simp at h; subst h; exact ⟨⟨hq, by show k < 4294967296; omega⟩, hkn⟩
  · have h : u64v (L ++ [m]) = u64v L ++ [.int .u64 (m : Nat)] := by simp [u64v]
    rw [h]
    exact (ho4.alloc o2).only hon5 (fun b hb => (hne b hb).2)
  · rw [cellsOf_snoc]; exact ho5
  · rcases hh5 with e | e
    · exact (hne b hb).2 (e ▸ h)
    · rw [e] at h
      cases h
      have := l4 _ hb
      simp at this
      omega
  · rcases hh5 with e | e <;> rw [e] at hb
    · exact hg5 b hb
    · cases hb; simp; omega
  · have hb1 : Below w.heap.size w w1 := (hB.alloc s1 _).trans (hon4.below (by simp; omega) (fun b hb h => by have := (hg4 b h).1; omega))
    exact (hb1.alloc hb1.size _).trans (hon5.below (by have := hb1.size; simp; omega) (fun b hb h => by have := hg5 b h; omega))
/-- one cell and two numbers anew -/
theorem BI.turn {n i jj : Nat} {w wr : World} {L : List Nat} {T : List CellD} {b4 b5 c4 c5 : Nat} {r : Nat} (n4 : Nat) (hL : L.length = n) (hT : T.length = n) (h64 : ok64 L) (hc : ∀ c ∈ T, okC c ∧ c.2 < n) (hB : Below w.heap.size w wr)
    (h4 : Own wr (some ⟨b4, 0, none⟩) c4 (some b4) 23 1 n (u64v L)) (h5 : Own wr (some ⟨b5, 0, none⟩) c5 (some b5) 108 2 n (cellsOf T)) (hne : b4 ≠ b5) (hb4 : w.heap.size ≤ b4) (hb5 : w.heap.size ≤ b5) (hi : i < n) (hj : jj < n) (hn : n ≤ 1000000) (hr : r < 18446744073709551616) (hm : n4 < 18446744073709551616) :
    BI n n w (.slice (some ⟨b4, 0, none⟩) n c4) (.slice (some ⟨b5, 0, none⟩) n c5)
      (((((wr.setCell ⟨b5, i * 2, none⟩ (.int .u64 (L[i] : Nat))).setCell ⟨b5, i * 2 + 1, none⟩ (.int .u32 (jj : Nat))).drew).setCell ⟨b4, jj, none⟩ (.int .u64 (n4 : Nat))).setCell ⟨b4, i, none⟩ (.int .u64 (r : Nat))) := by
  have hli : L[i] < 18446744073709551616 := h64 _ (List.getElem_mem _)
  refine ⟨(L.set jj n4).set i r, T.set i (L[i], jj), _, _, c4, c5, some b4, some b5, rfl, rfl, by simp [hL], by simp [hT], ?_, ?_, ?_, ?_, (fun b hb => by cases hb; exact ⟨hb4, fun e => by cases e; exact hne rfl⟩), (fun b hb => by cases hb; exact hb5), ?_⟩
  · intro x hx
    rcases List.mem_or_eq_of_mem_set hx with h | h
    · rcases List.mem_or_eq_of_mem_set h with h | h
      · exact h64 x h
      · omega
    · omega
  · intro x hx
    rcases List.mem_or_eq_of_mem_set hx with h | h
    · exact hc x h
    · subst h; exact ⟨⟨hli, by show jj < 4294967296; omega⟩, hj⟩
  · have h := ((h4.setCell (p := ⟨b5, i * 2, none⟩) (fun b hb => by cases hb; exact hne) (.int .u64 (L[i] : Nat))).setCell (p := ⟨b5, i * 2 + 1, none⟩) (fun b hb => by cases hb; exact hne) (.int .u32 (jj : Nat))).ext (ext_drew _)
    have h2 := (h.setCellAt jj (.int .u64 (n4 : Nat))).setCellAt i (.int .u64 (r : Nat))
    have e : u64v ((L.set jj n4).set i r) = ((u64v L).set jj (.int .u64 (n4 : Nat))).set i (.int .u64 (r : Nat)) := by simp [u64v, List.map_set]
    rw [e]
    exact h2
  · rw [← cellsOf_set]
    exact ((((h5.setCellAt _ _).setCellAt _ _).ext (ext_drew _)).setCell (p := ⟨b4, jj, none⟩) (fun b hb => by cases hb; exact hne.symm) _).setCell (p := ⟨b4, i, none⟩) (fun b hb => by cases hb; exact hne.symm) _
  · have h1 : Below w.heap.size w ((wr.setCell ⟨b5, i * 2, none⟩ (.int .u64 (L[i] : Nat))).setCell ⟨b5, i * 2 + 1, none⟩ (.int .u32 (jj : Nat))) := (hB.setCell (by exact hb5) _).setCell (by exact hb5) _
    exact (((h1.trans ((ext_drew _).mono h1.size)).setCell (by exact hb4) _).setCell (by exact hb4) _)
end Go.Proofs.YtcklfffeimnfeaaGreat

namespace Go.Proofs.YtcklfffeimnfeaaGreat
open Go.RowKit

abbrev zeroC : Value := .agg #[.int .u64 0, .int .u32 0]
abbrev zeroCs : Array Value := #[.int .u64 0, .int .u32 0]
theorem mk_cells (n : Nat) (hn : n ≤ 1000) (W : World) : (Instr.makeSlice 61 (.int .i64 (n : Nat)) (.int .i64 (n : Nat))).run Tryz.prog W = .ok (.slice (some ⟨W.heap.size, 0, none⟩) n n) (W.alloc (.cells (madeCells zeroCs (n * 2)) 108)) := by
  obtain ⟨i, hi, hz, hsz, hby⟩ := cellElem.hi
  have h := run_make (P := Tryz.prog) W 61 108 i zeroC Tryz.underlying61 hi hz .i64 .i64 n n (by omega) (Int.le_refl _) (by rw [hby]; omega) (by omega)
  rw [hsz] at h
  have e : zeroC.cells = zeroCs := rfl
  rw [e] at h
  simpa using h
theorem made_cells (n : Nat) : (madeCells zeroCs (n * 2)).toList = cellsOf (List.replicate n (0, 0)) := by
  induction n with
  | zero => simp [madeCells, cellsOf]
  | succ n ih =>
    rw [List.replicate_succ', cellsOf_snoc, ← ih]
    simp only [madeCells]
    rw [show (n + 1) * 2 = n * 2 + 1 + 1 by omega, Array.range_succ, Array.range_succ]
    simp [cellCs]
def TabRet (l : List ArcD) (w : World) (e : Ending) (w' : World) : Prop :=
  ∃ bt, e = .returned (.tuple #[.slice (some ⟨bt, 0, none⟩) l.length l.length, .int .i64 0]) ∧ Own w' (some ⟨bt, 0, none⟩) l.length (some bt) 108 2 l.length (cellsOf (buildT (l.map (·.2)))) ∧ w.heap.size ≤ bt ∧ Below w.heap.size w w'
def t1 (n ww k : Nat) : List (Nat × Nat) := (List.range k).map (fun i => (ww, i)) ++ List.replicate (n - k) (0, 0)
theorem t1_set {n ww k : Nat} (h : k < n) : (t1 n ww k).set k (ww, k) = t1 n ww (k + 1) := by
  unfold t1
  rw [show n - k = (n - (k + 1)) + 1 by omega, List.replicate_succ, List.set_append_right _ _ (by simp), List.range_succ]
  simp
theorem t1_end (n ww : Nat) : t1 n ww n = (List.range n).map (fun i => (ww, i)) := by simp [t1]
def ab1 (l : List ArcD) (w : World) (r bt : Nat) (gl gp : Option Nat) (v24 : Value) (wr : World) : Prop :=
  ∃ k : Nat, k ≤ l.length ∧ v24 = .int .i64 (k : Nat) ∧ RestsAt wr r (sumA l) (restK l l.length) (poorK l (sumA l) l.length) 0 gl gp ∧ Own wr (some ⟨bt, 0, none⟩) l.length (some bt) 108 2 l.length (cellsOf (t1 l.length (sumA l) k)) ∧ Below w.heap.size w wr
def ab2 (l : List ArcD) (w : World) (r bt : Nat) (wr : World) : Prop :=
  ∃ (s : BSt) (poor : List Nat) (rich f : Nat) (gl gp : Option Nat), TInv (l.map (·.2)) s poor rich f ∧ RestsAt wr r (sumA l) s.1 poor rich gl gp ∧ (∀ q, fpR r gl gp q → w.heap.size ≤ q ∧ q ≠ bt) ∧ Own wr (some ⟨bt, 0, none⟩) l.length (some bt) 108 2 l.length (cellsOf s.2) ∧ Below w.heap.size w wr
def leftM (w : World) (r ww n : Nat) : Nat := match w.cell? ⟨r, 1, none⟩ with
  | some (.slice (some a) _ _) => (List.range n).countP (fun i => match w.cell? ⟨a.block, i, none⟩ with
    | some v => decide ((intOf v).toNat ≠ ww)
    | none => false)
  | _ => 0
theorem RestsAt.leftM {w : World} {r ww : Nat} {L poor : List Nat} {rich : Nat} {gl gp : Option Nat} (h : RestsAt w r ww L poor rich gl gp) : leftM w r ww L.length = L.countP (fun x => decide (x ≠ ww)) := by
  rcases Nat.eq_zero_or_pos L.length with h0 | h0
  · obtain rfl := List.length_eq_zero_iff.1 h0
    unfold Go.Proofs.YtcklfffeimnfeaaGreat.leftM
    split <;> simp
  · obtain ⟨bl, lc, pa, pc, _, _, _, c1, _, _, _, _, _, hL⟩ := h.cells h0
    unfold Go.Proofs.YtcklfffeimnfeaaGreat.leftM
    rw [c1]
    have e : L = (List.range L.length).map (gN L) := by
      refine List.ext_getElem (by simp) fun i h1 h2 => ?_
      rw [List.getElem_map, List.getElem_range, gN_get h1]
    conv => rhs; rw [e]
    rw [List.countP_map]
    refine List.countP_congr fun i hi => ?_
    have hi := List.mem_range.1 hi
    rw [(hL i hi).1]
    simp [intOf, gN_get hi]
    exact decide_eq_true_iff
theorem Own.made (n : Nat) (hn : n ≤ 1000) (w : World) : Own (w.alloc (.cells (madeCells zeroCs (n * 2)) 108)) (some ⟨w.heap.size, 0, none⟩) n (some w.heap.size) 108 2 n (cellsOf (List.replicate n (0, 0))) := by
  have hl : (cellsOf (List.replicate n (0, 0))).length = n * 2 := by rw [← made_cells]; simp [size_madeCells]
  refine ⟨hl, .inr ⟨w.heap.size, _, rfl, rfl, heap_alloc_new _ _, Nat.le_refl _, by simp [maxLen]; omega, by rw [size_madeCells], ?_⟩⟩
  rw [made_cells, List.take_of_length_le (by omega)]
theorem Own.cell2 {w : World} {bt cap n : Nat} {T : List (Nat × Nat)} (h : Own w (some ⟨bt, 0, none⟩) cap (some bt) 108 2 n (cellsOf T)) (k : Nat) (hk : k < n) : (∃ u, w.cell? ⟨bt, k * 2, none⟩ = some u) ∧ (∃ u, w.cell? ⟨bt, k * 2 + 1, none⟩ = some u) ∧ w.frozen? ⟨bt, k * 2, none⟩ = false ∧ w.frozen? ⟨bt, k * 2 + 1, none⟩ = false := by
  have hl := h.len
  exact ⟨⟨(cellsOf T)[k * 2]'(by omega), by rw [h.cell _ (by omega), List.getElem?_eq_getElem]⟩, ⟨(cellsOf T)[k * 2 + 1]'(by omega), by rw [h.cell _ (by omega), List.getElem?_eq_getElem]⟩, h.frozen _, h.frozen _⟩
theorem Own.set2 {w : World} {bt cap n : Nat} {T : List (Nat × Nat)} (h : Own w (some ⟨bt, 0, none⟩) cap (some bt) 108 2 n (cellsOf T)) (k x y : Nat) : Own ((w.setCell ⟨bt, k * 2, none⟩ (.int .u64 (x : Nat))).setCell ⟨bt, k * 2 + 1, none⟩ (.int .u32 (y : Nat))) (some ⟨bt, 0, none⟩) cap (some bt) 108 2 n (cellsOf (T.set k (x, y))) := by
  rw [← cellsOf_set]
  exact (h.setCellAt _ _).setCellAt _ _
theorem only_set2 (w : World) (bt k : Nat) (x y : Value) : Only (fun q => q = bt) w ((w.setCell ⟨bt, k * 2, none⟩ x).setCell ⟨bt, k * 2 + 1, none⟩ y) :=
  ((Only.refl (fun q => q = bt) w).setCell (p := ⟨bt, k * 2, none⟩) (fun _ => rfl) _).setCell (p := ⟨bt, k * 2 + 1, none⟩) (fun _ => rfl) _
theorem abuild_any (l : List ArcD) (ao : Option Addr) (cap : Nat) (fp : Nat → Prop) (w : World) (hl : l.length ≤ 1000) (hne : l ≠ []) (hm : mayA l = true) (hrd : RdS arcRep fp w ao l) :
    Calls Tryz.prog 68 #[.slice ao l.length cap] w (TabRet l w) := by
  have HM := Lib.hid (show Calls Tryz.prog 44 #[.slice ao l.length cap] w (RetB (.bool true) w) by rw [← hm]; exact gmay_any l ao cap fp w (by omega) hrd)
  have HBg := Lib.hid (fun W (h : Below w.heap.size w W) => rbegin_any l ao cap fp W hl (hrd.ext h))
  have hpos : 0 < l.length := List.length_pos_iff.2 hne
  have hww : sumA l ≤ 2147483647 := (of_decide_eq_true hm).2.2
  have d0 : (l.length == 0) = false := by rw [beq_eq_false_iff_ne]; omega
  have d0' : ((l.length : Int) == 0) = false := by rw [beq_eq_false_iff_ne]; omega
  have HMk := Lib.hid (fun W => mk_cells l.length hl W)
  clear hrd hne hm
  obtain ⟨n, hn⟩ : ∃ n, l.length = n := ⟨_, rfl⟩
  rw [hn] at d0 d0' HMk hpos hl HM
  simp only [hn] at HBg
  rw [hn]
  have Hn := Lib.hid hn
  have Hpos := Lib.hid hpos
  clear hn hpos
  go_enter Tryz.func68, Tryz.ntmps68
  go_wp2_with fail
  go_step3
  go_wp2_with (first
    | (go_at_call 44; (with_reducible refine HM.out.mono ?_); rintro e w1 ⟨rfl, hx⟩; have B1 := Lib.hid hx; clear hx)
    | (go_at_call 110; (with_reducible refine (HBg.out _ B1.out).mono ?_); rintro e w2 ⟨r, gl, gp, rfl, hR, hF, hx⟩; have HR := Lib.hid hR; have HF := Lib.hid (fun q (h : fpR r gl gp q) => (⟨Nat.le_trans B1.out.size (hF q h), hR.lt q h⟩ : w.heap.size ≤ q ∧ q < w2.heap.size)); have B2 := Lib.hid (B1.out.trans (hx.mono B1.out.size)); clear hx hF hR; have hmk := HMk.out))
  have hpos := Hpos.out
  obtain ⟨bt, hbt⟩ : ∃ bt, bt = w2.heap.size := ⟨_, rfl⟩
  rw [← hbt]
  have Hbt := Lib.hid hbt
  have HFb := Lib.hid (fun q (h : fpR r gl gp q) => (fun e => by have := (HF.out q h).2; omega : q ≠ bt))
  have hbl : w.heap.size ≤ bt := by rw [hbt]; exact B2.out.size
  obtain ⟨wm, hwm⟩ : ∃ wm, wm = w2.alloc (.cells (madeCells zeroCs (n * 2)) 108) := ⟨_, rfl⟩
  have hI : ab1 l w r bt gl gp (.int .i64 0) wm := by
    refine ⟨0, Nat.zero_le _, rfl, ?_, ?_, ?_⟩
    · rw [hwm]; exact HR.out.ext (ext_alloc w2 _)
    · rw [Hn.out, hwm, hbt, show t1 n (sumA l) 0 = List.replicate n (0, 0) by simp [t1]]
      exact Own.made n hl w2
    · rw [hwm]; exact B2.out.alloc B2.out.size _
  have HI := Lib.hid hI
  rw [← hwm]
  clear hI hwm hbt hmk
  go_loopw [6, 24] (fun _ v24 wr => ab1 l w r bt gl gp v24 wr) (fun _ v24 _ => n - (intOf v24).toNat)
  case atStart => exact HI.out
  case round =>
    obtain ⟨k, hk, rfl, hR, hO, hB⟩ := hrel
    rw [Hn.out] at hk hO
    by_cases hlt : k < n
    · obtain ⟨bl, lc, pa, pc, hgl, hblr, c0, c1, c2, c3, hf, hOl, hPp, hL⟩ := hR.cells (by rw [restK_len (Nat.le_refl _), Hn.out]; exact hpos)
      obtain ⟨⟨u0, hu0⟩, ⟨u1, hu1⟩, f0, f1⟩ := hO.cell2 k hlt
      have hkw : IntKind.u32.wrap ((k : Nat) : Int) = (k : Int) := IntWalk.u32_in _ (by omega)
      have hir : (k : Int) < (n : Int) := by omega
      have HR1 := Lib.hid hR
      have HO1 := Lib.hid hO
      have HB1 := Lib.hid hB
      clear hgl hblr c1 c2 c3 hf hOl hPp hL hR hO hB
      go_wp2_with fail
      go_roundw
      case rel =>
        have ho := only_set2 wr bt k (.int .u64 (sumA l : Nat)) (.int .u32 (k : Nat))
        refine ⟨k + 1, by rw [Hn.out]; omega, by go_num, HR1.out.keep (fun q hq hql => ho.same q hql (fun e => HFb.out q hq e)), ?_, HB1.out.trans (ho.below HB1.out.size (fun q hq e => by omega))⟩
        rw [Hn.out, ← t1_set hlt]
        exact HO1.out.set2 k _ _
      case measure => simp [intOf]; omega
    · obtain rfl : k = n := by omega
      have HR1 := Lib.hid hR
      have HO1 := Lib.hid hO
      have HB1 := Lib.hid hB
      clear hR hO hB
      go_wp2_with fail
      go_step3
      go_wp2_with fail
      have hW : (bstart (l.map (·.2))).1 = restK l l.length := by simp [bstart, restK]
      have hI2 : ab2 l w r bt wr := by
        refine ⟨bstart (l.map (·.2)), _, 0, _, gl, gp, TInv.start _, ?_, fun q hq => ⟨(HF.out q hq).1, HFb.out q hq⟩, ?_, HB1.out⟩
        · have e : (List.range (l.map (·.2)).length).filter (fun i => decide (gN (bstart (l.map (·.2))).1 i < (l.map (·.2)).sum)) = poorK l (sumA l) l.length := by
            rw [hW, List.length_map]; rfl
          rw [e, hW]
          exact HR1.out
        · have e : (bstart (l.map (·.2))).2 = t1 k (sumA l) k := by
            rw [t1_end]
            show (List.range (l.map (·.2)).length).map (fun i => ((l.map (·.2)).sum, i)) = _
            rw [List.length_map, Hn.out]; rfl
          rw [e, Hn.out]
          exact HO1.out
      have HI2 := Lib.hid hI2
      clear hI2 hW
      go_loopw [7, 8] (fun _ _ wr => ab2 l w r bt wr) (fun _ _ wr => leftM wr r (sumA l) l.length)
      case atStart => exact HI2.out
      case round =>
        obtain ⟨s, poor, rich, f, gl2, gp2, hT, hR, hF, hO, hB⟩ := hrel
        rename World => wo
        have hs1 : s.1.length = k := by rw [hT.b.l1, List.length_map, Hn.out]
        rw [Hn.out] at hO
        have HO := Lib.hid hO
        have HB := Lib.hid hB
        have HFq := Lib.hid hF
        have HRq := Lib.hid hR
        clear hO hB hF
        cases poor with
        | nil =>
          have c2 : ∃ pa pc, wo.cell? ⟨r, 2, none⟩ = some (.slice pa 0 pc) := by
            obtain ⟨la, lc, pa, pc, h1, _⟩ := hR
            exact ⟨pa, pc, cell_of_row wo r 2 _ _ (0, 0) h1⟩
          obtain ⟨pa, pc, c2⟩ := c2
          have Hov := Lib.hid hT.over
          clear hT hR
          go_wp2_with fail
          try rw [Exit.noGoto_ret]
          go_ret2
          exact ⟨bt, by rw [Hn.out]; rfl, by rw [← Hov.out, Hn.out]; exact HO.out, hbl, HB.out⟩
        | cons i rest =>
          obtain ⟨j, hi, hj, hij, hlo, hhi, hrj, hbt, hrise, hcnt, f', hT'⟩ := hT.turn
          have hrl := hT.plen
          rw [List.length_map, Hn.out, List.length_cons] at hrl
          have h64 : ok64 s.1 := fun x hx => by
            have h1 := hT.entry hx
            rw [List.length_map, Hn.out] at h1
            have h2 : k * (l.map (·.2)).sum ≤ 1000 * 2147483647 := Nat.mul_le_mul hl hww
            omega
          have HNx := Lib.hid (rnext_any r (sumA l) i s.1 rest rich gl2 gp2 wo hR)
          have HGv := Lib.hid (fun W (h : RestsAt W r (sumA l) s.1 rest rich gl2 gp2) => rgive_any r (sumA l) i j s.1 rest rich gl2 gp2 W (by omega) (by omega) h64 (by omega) hi hj hij hlo hhi hrj hbt hrise h)
          have c2 : ∃ pa pc, wo.cell? ⟨r, 2, none⟩ = some (.slice pa (rest.length + 1) pc) := by
            obtain ⟨la, lc, pa, pc, h1, _⟩ := hR
            exact ⟨pa, pc, cell_of_row wo r 2 _ _ (0, 0) h1⟩
          obtain ⟨pa, pc, c2⟩ := c2
          obtain ⟨N, hN⟩ : ∃ N, rest.length + 1 = N := ⟨_, rfl⟩
          rw [hN] at c2
          have e0 : (N == 0) = false := by rw [beq_eq_false_iff_ne]; omega
          have e0' : ((N : Int) == 0) = false := by rw [beq_eq_false_iff_ne]; omega
          have hik : i < k := by omega
          have hir : (i : Int) < (k : Int) := by omega
          have hjw : IntKind.u32.wrap ((j : Nat) : Int) = (j : Int) := IntWalk.u32_in _ (by omega)
          have HT' := Lib.hid hT'
          have Hcnt := Lib.hid hcnt
          have hrbt : r ≠ bt := (HFq.out r (.inl rfl)).2
          have Hi := Lib.hid hi
          have Hs1 := Lib.hid hs1
          clear hT hR hT' hcnt hN hlo hhi hrj hbt hrise h64 hrl hj hij hi hs1
          go_wp2_with (first
            | (go_at_call 111; (with_reducible refine HNx.out.mono ?_); rintro e w3 ⟨rfl, hR3, hon3⟩; obtain ⟨bl, lc, pa3, pc3, _, _, _, c1, _, _, _, _, _, hL⟩ := hR3.cells (by have := Hs1.out; omega); have hci := (hL i Hi.out).1; rw [← gN_get Hi.out] at hci; rw [Hs1.out] at c1; have HR3 := Lib.hid hR3; have Hon3 := Lib.hid hon3; have HO3 := Lib.hid (HO.out.keep (fun b hb => hon3.same b (HO.out.lt b hb) (fun e => by cases hb; exact hrbt e.symm))); clear hL hR3 hon3)
            | (go_at_call 112; (with_reducible refine (HGv.out w3 HR3.out).mono ?_); rintro e w4 ⟨rfl, gp4, hR4, hg4, hon4⟩; have hO4 := HO3.out.keep (fun b hb => hon4.same b (HO3.out.lt b hb) (fun e => by cases hb; exact (HFq.out bt e).2 rfl)); obtain ⟨⟨u0, hu0⟩, ⟨u1, hu1⟩, f0, f1⟩ := hO4.cell2 i hik; have HO4 := Lib.hid hO4; have HR4 := Lib.hid hR4; have Hg4 := Lib.hid hg4; have Hon4 := Lib.hid hon4; clear hO4 hR4 hg4 hon4))
          have ho := only_set2 w4 bt i (.int .u64 (gN s.1 i : Nat)) (.int .u32 (j : Nat))
          have hfr : ∀ q, fpR r gl2 gp4 q → w.heap.size ≤ q ∧ q ≠ bt := fun q hq => by
            rcases hq with e | e | e
            · exact HFq.out q (.inl e)
            · exact HFq.out q (.inr (.inl e))
            · rcases Hg4.out with e2 | ⟨q', e2, hl2⟩
              · exact HFq.out q (.inr (.inr (by rw [← e2, e])))
              · rw [e2] at e
                cases e
                have h1 := HB.out.size
                have h2 := Hon3.out.size
                have h3 := HO3.out.lt bt rfl
                exact ⟨by omega, by omega⟩
          have hRn := HR4.out.keep (fun q hq hql => ho.same q hql (fun e => (hfr q hq).2 e))
          have HRn := Lib.hid hRn
          have HO4' := Lib.hid ho
          have HFr := Lib.hid hfr
          clear hRn ho hfr
          go_roundw
          case rel =>
            have hRn := HRn.out
            have ho := HO4'.out
            have hfr := HFr.out
            refine ⟨bturn (sumA l) s i j, (if gN s.1 j - (sumA l - gN s.1 i) < sumA l then insAt j rest else rest), j, f', gl2, gp4, HT'.out, hRn, hfr, ?_, ?_⟩
            · rw [Hn.out]
              exact HO4.out.set2 i (gN s.1 i) j
            · have b3 : Below w.heap.size w w3 := HB.out.trans (Hon3.out.below HB.out.size (fun q hq e => by have := (HFq.out r (.inl rfl)).1; omega))
              have b4 : Below w.heap.size w w4 := b3.trans (Hon4.out.below b3.size (fun q hq e => by have := (HFq.out q e).1; omega))
              exact b4.trans (ho.below b4.size (fun q hq e => by omega))
          case measure =>
            have h1 := HRn.out.leftM
            have h2 := HRq.out.leftM
            have h3 : (((s.1.set j (gN s.1 j - (sumA l - gN s.1 i))).set i (sumA l))).length = l.length := by rw [List.length_set, List.length_set, Hs1.out, Hn.out]
            rw [h3] at h1
            rw [Hs1.out, ← Hn.out] at h2
            rw [h1, h2]
            exact Hcnt.out
end Go.Proofs.YtcklfffeimnfeaaGreat

namespace Go.Proofs.YtcklfffeimnfeaaGreat

theorem cntT_snoc (w tv : Nat) : ∀ (T : List (Nat × Nat)) (k : Nat) (c : Nat × Nat), cntT w tv k (T ++ [c]) = cntT w tv k T + conT w tv (k + T.length) c
  | [], k, c => by simp [cntT]
  | x :: T, k, c => by
    have := cntT_snoc w tv T (k + 1) c
    rw [List.cons_append]
    simp only [cntT, List.length_cons]
    rw [this, show k + 1 + T.length = k + (T.length + 1) by omega]
    omega
theorem conT_le {w tv k : Nat} {c : Nat × Nat} (h : c.1 ≤ w) : conT w tv k c ≤ w := by
  unfold conT
  split <;> split <;> omega
theorem cntT_le (w tv : Nat) : ∀ (T : List (Nat × Nat)) (k : Nat), (∀ c ∈ T, c.1 ≤ w) → cntT w tv k T ≤ T.length * w
  | [], k, _ => by simp [cntT]
  | x :: T, k, h => by
    have h1 := cntT_le w tv T (k + 1) (fun c hc => h c (by simp [hc]))
    have h2 := conT_le (w := w) (tv := tv) (k := k) (h x (by simp))
    simp only [cntT, List.length_cons]
    rw [Nat.add_mul]
    omega
/-- what the first k cells send to each -/
def cntK (w n : Nat) (T : List (Nat × Nat)) (k : Nat) : List Nat := (List.range n).map (fun i => cntT w i 0 (T.take k))
theorem cntK_len (w n : Nat) (T : List (Nat × Nat)) (k : Nat) : (cntK w n T k).length = n := by simp [cntK]
theorem cntK_get {w n : Nat} {T : List (Nat × Nat)} {k i : Nat} (h : i < n) : gN (cntK w n T k) i = cntT w i 0 (T.take k) := by
  rw [gN_get (by rw [cntK_len]; exact h)]
  simp [cntK]
theorem cntK_zero (w n : Nat) (T : List (Nat × Nat)) : cntK w n T 0 = List.replicate n 0 := by
  refine List.ext_getElem (by simp [cntK]) fun i h1 h2 => ?_
  simp [cntK, cntT]
theorem cntK_entry {w n : Nat} {T : List (Nat × Nat)} (hT : ∀ c ∈ T, c.1 ≤ w) (k : Nat) {x : Nat} (hx : x ∈ cntK w n T k) : x ≤ T.length * w := by
  obtain ⟨i, _, rfl⟩ := List.mem_map.1 hx
  refine Nat.le_trans (cntT_le w i _ 0 (fun c hc => hT c (List.mem_of_mem_take hc))) (Nat.mul_le_mul_right _ ?_)
  rw [List.length_take]; omega
/-- one cell more: first its own part, then the other's -/
theorem cntK_step {w n : Nat} {T : List (Nat × Nat)} {k : Nat} (hk : k < T.length) (hkn : k < n) (h2 : T[k].2 < n) :
    ((cntK w n T k).set k (gN (cntK w n T k) k + T[k].1)).set T[k].2 (gN ((cntK w n T k).set k (gN (cntK w n T k) k + T[k].1)) T[k].2 + (w - T[k].1)) = cntK w n T (k + 1) := by
  have hl := cntK_len w n T k
  refine List.ext_getElem (by rw [List.length_set, List.length_set, cntK_len, cntK_len]) fun i h3 h4 => ?_
  rw [cntK_len] at h4
  rw [← gN_get h3, ← gN_get (by rw [cntK_len]; exact h4), gN_set (by rw [List.length_set, hl]; exact h2), gN_set (by rw [hl]; exact hkn), gN_set (by rw [hl]; exact hkn), cntK_get h4, cntK_get h4, cntK_get hkn, cntK_get h2,
    List.take_succ_eq_append_getElem hk, cntT_snoc, List.length_take, Nat.min_eq_left (by omega), Nat.zero_add]
  unfold conT
  by_cases e1 : i = T[k].2
  · subst e1
    rw [if_pos rfl, if_pos rfl]
    by_cases e2 : T[k].2 = k
    · rw [if_pos e2, if_pos e2.symm, e2]; omega
    · rw [if_neg e2, if_neg (fun e => e2 e.symm)]; omega
  · have e1' : ¬ T[k].2 = i := fun e => e1 e.symm
    rw [if_neg e1, if_neg e1']
    by_cases e2 : i = k
    · subst e2; rw [if_pos rfl, if_pos rfl]; omega
    · have e2' : ¬ k = i := fun e => e2 e.symm
      rw [if_neg e2, if_neg e2']; omega
theorem RightT.counts {W : List Nat} {T : List (Nat × Nat)} (h : RightT W T) : ∀ i, i < W.length → gN (cntK W.sum W.length T T.length) i = W.length * gN W i := fun i hi => by
  rw [cntK_get hi, List.take_length]
  exact h.2.2 i hi
end Go.Proofs.YtcklfffeimnfeaaGreat

namespace Go.Proofs.YtcklfffeimnfeaaGreat
open Go.RowKit

theorem made_u64 (n : Nat) : (madeCells #[.int .u64 0] n).toList = u64v (List.replicate n 0) := by
  induction n with
  | zero => simp [madeCells, u64v]
  | succ n ih =>
    rw [List.replicate_succ', show u64v (List.replicate n 0 ++ [0]) = u64v (List.replicate n 0) ++ [.int .u64 0] by simp [u64v], ← ih]
    simp only [madeCells]
    rw [Array.range_succ]
    simp [Nat.mod_one]
theorem mk_u64 (n : Nat) (hn : n ≤ 1000) (W : World) : (Instr.makeSlice 106 (.int .i64 (n : Nat)) (.int .i64 (n : Nat))).run Tryz.prog W = .ok (.slice (some ⟨W.heap.size, 0, none⟩) n n) (W.alloc (.cells (madeCells #[.int .u64 0] n) 23)) := by
  obtain ⟨i, hi, hz, hsz, hby⟩ := u64Elem.hi
  have h := run_make (P := Tryz.prog) W 106 23 i (.int .u64 0) Tryz.underlying106 hi hz .i64 .i64 n n (by omega) (Int.le_refl _) (by rw [hby]; omega) (by omega)
  rw [hsz] at h
  have e : (Value.int .u64 0).cells = #[.int .u64 0] := rfl
  rw [e] at h
  simpa using h
theorem Own.madeU (n : Nat) (hn : n ≤ 1000) (w : World) : Own (w.alloc (.cells (madeCells #[.int .u64 0] n) 23)) (some ⟨w.heap.size, 0, none⟩) n (some w.heap.size) 23 1 n (u64v (List.replicate n 0)) := by
  have hl : (u64v (List.replicate n 0)).length = n * 1 := by simp [u64v]
  refine ⟨hl, .inr ⟨w.heap.size, _, rfl, rfl, heap_alloc_new _ _, Nat.le_refl _, by simp [maxLen]; omega, by rw [size_madeCells]; omega, ?_⟩⟩
  rw [made_u64, List.take_of_length_le (by omega)]
theorem Own.getU {w : World} {b cap n : Nat} {L : List Nat} (h : Own w (some ⟨b, 0, none⟩) cap (some b) 23 1 n (u64v L)) (hL : L.length = n) (k : Nat) (hk : k < n) : w.cell? ⟨b, k, none⟩ = some (.int .u64 (gN L k : Nat)) ∧ w.frozen? ⟨b, k, none⟩ = false := by
  refine ⟨?_, h.frozen _⟩
  rw [h.cell _ (by omega), gN_get (by omega)]
  simp [u64v, hL, hk]
theorem Own.setU {w : World} {b cap n : Nat} {L : List Nat} (h : Own w (some ⟨b, 0, none⟩) cap (some b) 23 1 n (u64v L)) (k v : Nat) : Own (w.setCell ⟨b, k, none⟩ (.int .u64 (v : Nat))) (some ⟨b, 0, none⟩) cap (some b) 23 1 n (u64v (L.set k v)) := by
  rw [show u64v (L.set k v) = (u64v L).set k (.int .u64 (v : Nat)) by simp [u64v, List.map_set]]
  exact h.setCellAt _ _
def CountRet (T : List CellD) (ww : Nat) (w : World) (e : Ending) (w' : World) : Prop :=
  ∃ b, e = .returned (.tuple #[.slice (some ⟨b, 0, none⟩) T.length T.length, .bool true]) ∧ Own w' (some ⟨b, 0, none⟩) T.length (some b) 23 1 T.length (u64v (cntK ww T.length T T.length)) ∧ w.heap.size ≤ b ∧ Below w.heap.size w w'
def countI (T : List CellD) (ww : Nat) (w : World) (b : Nat) (v14 : Value) (wr : World) : Prop :=
  ∃ k : Nat, k ≤ T.length ∧ v14 = .int .i64 (k : Nat) ∧ Own wr (some ⟨b, 0, none⟩) T.length (some b) 23 1 T.length (u64v (cntK ww T.length T k)) ∧ Below w.heap.size w wr
theorem counts_any (T : List CellD) (ww : Nat) (ao : Option Addr) (cap : Nat) (fp : Nat → Prop) (w : World) (hl : T.length ≤ 1000) (hww : ww ≤ 2147483647) (h1 : ∀ c ∈ T, c.1 ≤ ww ∧ c.2 < T.length) (hrd : RdS cellRep fp w ao T) :
    Calls Tryz.prog 155 #[.slice ao T.length cap, .int .u64 (ww : Nat)] w (CountRet T ww w) := by
  have hmk := fun W => mk_u64 T.length hl W
  have HR := Lib.hid hrd
  have H1 := Lib.hid h1
  clear hrd h1
  obtain ⟨n, hn⟩ : ∃ n, T.length = n := ⟨_, rfl⟩
  rw [hn] at hmk hl
  rw [hn]
  have Hn := Lib.hid hn
  clear hn
  go_enter Tryz.func155, Tryz.ntmps155
  go_wp2_with fail
  have hI : countI T ww w w.heap.size (.int .i64 0) (w.alloc (.cells (madeCells #[.int .u64 0] n) 23)) := by
    refine ⟨0, Nat.zero_le _, rfl, ?_, ext_alloc w _⟩
    rw [cntK_zero, Hn.out]
    exact Own.madeU n hl w
  have HI := Lib.hid hI
  obtain ⟨b, hb⟩ : ∃ b, w.heap.size = b := ⟨_, rfl⟩
  generalize hwm : w.alloc (.cells (madeCells #[.int .u64 0] n) 23) = wm at HI ⊢
  rw [hb] at HI ⊢
  have Hb := Lib.hid hb
  clear hI hmk hwm hb
  go_loopw [7, 14] (fun _ v14 wr => countI T ww w b v14 wr) (fun _ v14 _ => n - (intOf v14).toNat)
  case atStart => exact HI.out
  case round =>
    obtain ⟨k, hk, rfl, hO, hB⟩ := hrel
    rename World => wo
    rw [Hn.out] at hk hO
    have HO := Lib.hid hO
    have HB := Lib.hid hB
    clear hO hB
    by_cases hlt : k < n
    · have hkT : k < T.length := by rw [Hn.out]; exact hlt
      obtain ⟨ba, off, rfl, hba, a0, a1, hok⟩ := (HR.out.ext HB.out).cel k hkT
      have hk1 := H1.out _ (List.getElem_mem hkT)
      have HSt := Lib.hid (cntK_step (w := ww) (n := n) (T := T) (k := k) hkT hlt (by rw [← Hn.out]; exact hk1.2))
      obtain ⟨X, hX⟩ : ∃ X, T[k] = X := ⟨_, rfl⟩
      rw [hX] at a0 a1 hok hk1 HSt
      clear hX
      obtain ⟨X0, X1⟩ := X
      simp only at a0 a1 HSt
      have hx0 : X0 ≤ ww := hk1.1
      have hx1 : X1 < n := by have := hk1.2; rw [Hn.out] at this; exact this
      have HLn := Lib.hid (cntK_len ww n T k)
      have HLe := Lib.hid (fun i (hi : i < n) => (show gN (cntK ww n T k) i ≤ 1000 * 2147483647 by
        have h3 : gN (cntK ww n T k) i ∈ cntK ww n T k := by rw [gN_get (by rw [cntK_len]; exact hi)]; exact List.getElem_mem _
        have h4 := cntK_entry (fun c hc => (H1.out c hc).1) k h3
        rw [Hn.out] at h4
        exact Nat.le_trans h4 (Nat.mul_le_mul hl hww)))
      generalize cntK ww n T k = L at HSt HLn HLe HO
      have hkL := HLe.out k hlt
      obtain ⟨x, hx⟩ : ∃ x, gN L k = x := ⟨_, rfl⟩
      rw [hx] at hkL
      obtain ⟨g6, f6⟩ := HO.out.getU HLn.out k hlt
      rw [hx] at g6
      have hbl := HO.out.lt b rfl
      have HX := Lib.hid hx
      obtain ⟨wb, hwb⟩ : ∃ wb, wo.alloc (.cells #[.int .u64 (X0 : Nat), .int .u32 (X1 : Nat)] 108) = wb := ⟨_, rfl⟩
      have HBb := Lib.hid (show Below wo.heap.size wo wb by rw [← hwb]; exact ext_alloc wo _)
      have y0 : wb.cell? ⟨wo.heap.size, 0, none⟩ = some (.int .u64 (X0 : Nat)) := by rw [← hwb]; simp [go_sem]
      have y1 : wb.cell? ⟨wo.heap.size, 1, none⟩ = some (.int .u32 (X1 : Nat)) := by rw [← hwb]; simp [go_sem]
      have y6 : wb.cell? ⟨b, k, none⟩ = some (.int .u64 (x : Nat)) := ((bcell HBb.out).1 b k hbl).trans g6
      have z6 : wb.frozen? ⟨b, k, none⟩ = false := ((bcell HBb.out).2 b k hbl).trans f6
      have d1 : decide (ww < X0) = false := decide_eq_false (by omega)
      have d1' : decide ((ww : Int) < (X0 : Int)) = false := decide_eq_false (by omega)
      have d2 : decide (n ≤ X1) = false := decide_eq_false (by omega)
      have d2' : decide ((n : Int) ≤ (X1 : Int)) = false := decide_eq_false (by omega)
      have hx1w : IntKind.i64.wrap (X1 : Int) = (X1 : Int) := IntWalk.i64_in _ (by omega)
      have hir : (k : Int) < (n : Int) := by omega
      have hir1 : (X1 : Int) < (n : Int) := by omega
      have HX0 := Lib.hid hx0
      have HX1 := Lib.hid hx1
      clear g6 f6 hok hk1 hx hx0 hx1
      go_wp2_with fail
      obtain ⟨p, hp⟩ : ∃ p, x + X0 = p := ⟨_, rfl⟩
      have hpb : p ≤ 1001 * 2147483647 := by have := HX0.out; omega
      have hsw : IntKind.u64.wrap ((x : Int) + (X0 : Int)) = (p : Nat) := by rw [u64_mod]; omega
      have Hp := Lib.hid hp
      clear hp a0 a1 hwb
      refine wp_region_still_tail 8 (by kernel_rfl) (by kernel_rfl) ?_
      change wpStill _ _ (World.drew _) _ _ _
      simp only [List.take_succ_cons, List.take_zero, List.drop_succ_cons, List.drop_zero]
      repeat still_step
      refine wpStill_nil ?_
      clear hsw
      change wpList _ _ _ _ _ (World.drew _)
      have z6' : wb.drew.frozen? ⟨b, k, none⟩ = false := z6
      have y6' : wb.drew.cell? ⟨b, k, none⟩ = some (.int .u64 (x : Nat)) := y6
      go_wp2_with fail
      have HOq' := (((HO.out.ext HBb.out).setU k p).ext (ext_drew _))
      have hbo : ¬ wo.heap.size = b := by omega
      have v0 : (wb.setCell ⟨b, k, none⟩ (.int .u64 (p : Nat))).drew.cell? ⟨wo.heap.size, 0, none⟩ = some (.int .u64 (X0 : Nat)) := by
        rw [World.cell?_drew, cell_set_ite, if_neg (fun e => hbo e)]; exact y0
      have v1 : (wb.setCell ⟨b, k, none⟩ (.int .u64 (p : Nat))).drew.cell? ⟨wo.heap.size, 1, none⟩ = some (.int .u32 (X1 : Nat)) := by
        rw [World.cell?_drew, cell_set_ite, if_neg (fun e => hbo e)]; exact y1
      have hBq : Below w.heap.size w (wb.setCell ⟨b, k, none⟩ (.int .u64 (p : Nat))).drew := by
        have h1 := HB.out.trans (HBb.out.mono HB.out.size)
        exact (h1.setCell (by show w.heap.size ≤ b; have := Hb.out; omega) _).trans ((ext_drew _).mono (by have := h1.size; simpa using this))
      generalize (wb.setCell ⟨b, k, none⟩ (.int .u64 (p : Nat))).drew = wq at HOq' v0 v1 hBq ⊢
      have HOq := Lib.hid HOq'
      have HBq := Lib.hid hBq
      clear HOq' hBq y0 y1 y6 z6 z6' y6' d1 d1' d2 d2'
      have hLs : (L.set k p).length = n := by rw [List.length_set]; exact HLn.out
      obtain ⟨g7, f7⟩ := HOq.out.getU hLs X1 HX1.out
      have hyb : gN (L.set k p) X1 ≤ 1001 * 2147483647 := by
        rw [gN_set (by rw [HLn.out]; exact hlt)]
        split
        · exact hpb
        · have := HLe.out X1 HX1.out; omega
      obtain ⟨y, hy⟩ : ∃ y, gN (L.set k p) X1 = y := ⟨_, rfl⟩
      rw [hy] at g7 hyb
      obtain ⟨d, hd⟩ : ∃ d, ww - X0 = d := ⟨_, rfl⟩
      have hw1 : IntKind.u64.wrap ((ww : Int) - (X0 : Int)) = (d : Nat) := by have := HX0.out; rw [u64_mod]; omega
      have hdb : d ≤ 2147483647 := by omega
      obtain ⟨q, hq⟩ : ∃ q, y + d = q := ⟨_, rfl⟩
      have hw2 : IntKind.u64.wrap ((y : Int) + (d : Int)) = (q : Nat) := by rw [u64_mod]; omega
      have HNew := Lib.hid (show (L.set k p).set X1 q = cntK ww n T (k + 1) by rw [← HSt.out, HX.out, Hp.out, hy, hd, hq])
      clear hy hd hq hx1w
      refine wp_region_still_tail 11 (by kernel_rfl) (by kernel_rfl) ?_
      change wpStill _ _ (World.drew _) _ _ _
      simp only [List.take_succ_cons, List.take_zero, List.drop_succ_cons, List.drop_zero]
      repeat still_step
      refine wpStill_nil ?_
      clear hw1 hw2
      change wpList _ _ _ _ _ (World.drew _)
      have f7' : wq.drew.frozen? ⟨b, X1, none⟩ = false := f7
      have g7' : wq.drew.cell? ⟨b, X1, none⟩ = some (.int .u64 (y : Nat)) := g7
      go_wp2_with fail
      go_roundw
      case rel =>
        refine ⟨k + 1, by rw [Hn.out]; omega, by go_num, ?_, ?_⟩
        · rw [Hn.out, ← HNew.out]
          exact (HOq.out.setU X1 q).ext (ext_drew _)
        · exact (HBq.out.setCell (by show w.heap.size ≤ b; have := Hb.out; omega) _).trans ((ext_drew _).mono (by have := HBq.out.size; simpa using this))
      case measure => simp [intOf]; omega
    · obtain rfl : k = n := by omega
      go_wp2_with fail
      go_ret2
      exact ⟨b, by rw [Hn.out]; rfl, by rw [Hn.out]; exact HO.out, by rw [Hb.out]; exact Nat.le_refl _, HB.out⟩
end Go.Proofs.YtcklfffeimnfeaaGreat

namespace Go.Proofs.YtcklfffeimnfeaaGreat
open Go.RowKit

def mtI (w : World) (b n : Nat) (C : List Nat) (v6 v7 : Value) (wr : World) : Prop := ∃ k : Nat, k ≤ n ∧ v7 = .int .i64 (k : Nat) ∧ v6 = .bool true ∧ Own wr (some ⟨b, 0, none⟩) n (some b) 23 1 n (u64v C) ∧ Below w.heap.size w wr
theorem tmay_any (l : List ArcD) (T : List CellD) (ao bo : Option Addr) (ca cb : Nat) (fp fq : Nat → Prop) (w : World) (hl : l.length ≤ 1000) (hne : l ≠ []) (hm : mayA l = true) (hT : RightT (l.map (·.2)) T) (hrd : RdS arcRep fp w ao l) (hrt : RdS cellRep fq w bo T) :
    Calls Tryz.prog 141 #[.slice ao l.length ca, .slice bo T.length cb] w (RetB (.bool true) w) := by
  have hTl : T.length = l.length := by rw [hT.1, List.length_map]
  have hww : sumA l ≤ 2147483647 := (of_decide_eq_true hm).2.2
  have hcs : ∀ c ∈ T, c.1 ≤ sumA l ∧ c.2 < T.length := fun c hc => by
    obtain ⟨i, hi, rfl⟩ := List.mem_iff_getElem.1 hc
    have h := hT.2.1 i T[i] (List.getElem?_eq_getElem hi)
    rw [List.length_map] at h
    rw [hTl]
    exact h
  have HC := Lib.hid (fun W (h : Below w.heap.size w W) => counts_any T (sumA l) bo cb fq W (by omega) hww hcs (hrt.ext h))
  have HM := Lib.hid (show Calls Tryz.prog 44 #[.slice ao l.length ca] w (RetB (.bool true) w) by rw [← hm]; exact gmay_any l ao ca fp w (by omega) hrd)
  have HS := Lib.hid (fun W (h : Below w.heap.size w W) => gsum_any l ao ca fp W (by omega) (hrd.ext h))
  have HCt := Lib.hid (fun i (hi : i < l.length) => (show gN (cntK (sumA l) T.length T T.length) i = l.length * (l[i]).2 by
    have h := hT.counts i (by rw [List.length_map]; exact hi)
    rw [List.length_map] at h
    rw [hTl] at h ⊢
    rw [show (sumA l) = (l.map (·.2)).sum from rfl, h, gN_get (by rw [List.length_map]; exact hi), List.getElem_map]))
  have HR := Lib.hid hrd
  have hpos : 0 < l.length := List.length_pos_iff.2 hne
  clear hT hcs hrd hrt hm hne
  obtain ⟨n, hn⟩ : ∃ n, l.length = n := ⟨_, rfl⟩
  rw [hTl] at HC HCt ⊢
  rw [hn] at hpos hl HM
  simp only [hn] at HC HS
  rw [hn]
  have e0 : (n == 0) = false := by rw [beq_eq_false_iff_ne]; omega
  have e0' : ((n : Int) == 0) = false := by rw [beq_eq_false_iff_ne]; omega
  have e1 : (n != n) = false := bne_eq_false_iff_eq.2 rfl
  have e1' : ((n : Int) != (n : Int)) = false := bne_eq_false_iff_eq.2 rfl
  have Hn := Lib.hid hn
  have HTl := Lib.hid (hTl.trans hn)
  clear hn hTl
  go_enter Tryz.func141, Tryz.ntmps141
  go_wp2_with (first
    | (go_at_call 44; (with_reducible refine HM.out.mono ?_); rintro e w1 ⟨rfl, hx⟩; have B1 := Lib.hid hx; clear hx)
    | (go_at_call 84; (with_reducible refine (HS.out _ B1.out).mono ?_); rintro e w2 ⟨rfl, hx⟩; have B2 := Lib.hid (B1.out.trans (hx.mono B1.out.size)); clear hx)
    | (go_at_call 155; (with_reducible refine (HC.out _ B2.out).mono ?_); rintro e w3 ⟨b, rfl, hO, hbl, hx⟩; have HO := Lib.hid hO; have B3 := Lib.hid (B2.out.trans (hx.mono B2.out.size)); clear hx hO))
  rw [HTl.out] at HO ⊢
  obtain ⟨C, hC⟩ : ∃ C, cntK (sumA l) n T n = C := ⟨_, rfl⟩
  have HCn := Lib.hid (fun i (hi : i < l.length) => (show gN C i = n * (l[i]).2 by
    have h := HCt.out i hi
    rw [← hC]
    refine Eq.trans ?_ (h.trans ?_)
    · rw [Hn.out]
    · exact congrArg (· * _) Hn.out))
  have HCl := Lib.hid (show C.length = n by rw [← hC, cntK_len])
  rw [hC] at HO
  have HI := Lib.hid (show mtI w b n C (.bool true) (.int .i64 0) w3 from ⟨0, Nat.zero_le _, rfl, rfl, HO.out, B3.out⟩)
  clear hC hbl
  go_loopw [6, 7] (fun v6 v7 wr => mtI w b n C v6 v7 wr) (fun _ v7 _ => n - (intOf v7).toNat)
  case atStart => exact HI.out
  case round =>
    obtain ⟨k, hk, rfl, rfl, hOr, hB⟩ := hrel
    by_cases hlt : k < n
    · have hkl : k < l.length := by rw [Hn.out]; exact hlt
      obtain ⟨ba, off, rfl, hba, a0, a1, hok⟩ := (HR.out.ext hB).arc k hkl
      obtain ⟨g0, _⟩ := hOr.getU HCl.out k hlt
      have hck := HCn.out k hkl
      obtain ⟨X, hX⟩ : ∃ X, l[k] = X := ⟨_, rfl⟩
      rw [hX] at a0 a1 hok hck
      clear hX
      obtain ⟨X0, X1⟩ := X
      simp only at a0 a1 hck
      have hx1 : X1 < 4294967296 := hok.2
      obtain ⟨p, hp⟩ : ∃ p, n * X1 = p := ⟨_, rfl⟩
      have hpb : p < 18446744073709551616 := by
        rw [← hp]
        have : n * X1 ≤ 1000 * 4294967296 := Nat.mul_le_mul hl (by omega)
        omega
      have hpz : (n : Int) * (X1 : Int) = (p : Nat) := by rw [← hp]; simp
      have hpw : IntKind.u64.wrap ((n : Int) * (X1 : Int)) = (p : Nat) := by rw [hpz, u64_mod]; omega
      have hnw : IntKind.u64.wrap (n : Int) = (n : Int) := by rw [u64_mod]; omega
      have hxw : IntKind.u64.wrap (X1 : Int) = (X1 : Int) := by rw [u64_mod]; omega
      rw [hck, hp] at g0
      have hir : (k : Int) < (n : Int) := by omega
      have dk : decide ((k : Int) < (n : Int)) = true := decide_eq_true hir
      have HOr := Lib.hid hOr
      have HB := Lib.hid hB
      clear hck hp hpz hok hOr hB
      go_wp2_with fail
      go_quiet (fail)
      go_wp2_with fail
      go_roundw
      case rel => exact ⟨k + 1, by omega, by go_num, rfl, HOr.out.ext (ext_drewN wr _), HB.out.trans ((ext_drewN wr _).mono HB.out.size)⟩
      case measure => simp [intOf]; omega
    · obtain rfl : k = n := by omega
      have HB := Lib.hid hB
      clear hOr hB
      go_wp2_with fail
      go_ret
      exact ⟨rfl, HB.out⟩
end Go.Proofs.YtcklfffeimnfeaaGreat
