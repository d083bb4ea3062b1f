/- palmerref16.Build exactly, its rows. -/
import Derived.Test.YtcklfffeimnfeaaGreatBx17
import Derived.Test.YtcklfffeimnfeaaGreatBx08
import Derived.Test.YtcklfffeimnfeaaGreatRefFirst
set_option maxRecDepth 100000
set_option maxHeartbeats 12800000
set_option linter.unusedSimpArgs false
set_option linter.unusedVariables false
namespace Go.Proofs.YtcklfffeimnfeaaGreat
open Go.RowKit

/-- what a call that builds this table leaves -/
def BuildX (T : List CellD) (w : World) (e : Ending) (w' : World) : Prop :=
  ∃ (ao : Option Addr) (cap : Nat), e = .returned (.slice ao T.length cap) ∧ T.length ≤ cap ∧ cap ≤ maxLen ∧ RdS cellRep (fun b => w.heap.size ≤ b) w' ao T ∧ Below w.heap.size w w'
theorem BuildX.ext {T : List CellD} {w wp w3 : World} {e : Ending} (h : BuildX T w e wp) (hB : Below wp.heap.size wp w3) : BuildX T w e w3 := by
  obtain ⟨ao, cap, h1, h4, h5, h6, h7⟩ := h
  exact ⟨ao, cap, h1, h4, h5, h6.ext hB, h7.trans (hB.mono h7.size)⟩
/-- the two rows, just these -/
def BX (n k : Nat) (L : List Nat) (T : List CellD) (w : World) (v4 v5 : Value) (wr : World) : Prop :=
  ∃ (a4 a5 : Option Addr) (c4 c5 : Nat) (g4 g5 : Option Nat), v4 = .slice a4 k c4 ∧ v5 = .slice a5 k c5 ∧ L.length = k ∧ T.length = k ∧ ok64 L ∧ (∀ c ∈ T, okC c ∧ c.2 < n) ∧
    Own wr a4 c4 g4 23 1 k (u64v L) ∧ Own wr a5 c5 g5 108 2 k (cellsOf T) ∧ (∀ b, g4 = some b → w.heap.size ≤ b ∧ g5 ≠ some b) ∧ (∀ b, g5 = some b → w.heap.size ≤ b) ∧ Below w.heap.size w wr
theorem BX.ret {n : Nat} {L : List Nat} {T : List CellD} {w wr : World} {v4 v5 : Value} (h : BX n n L T w v4 v5 wr) : BuildX T w (.returned v5) wr := by
  obtain ⟨a4, a5, c4, c5, g4, g5, rfl, rfl, hL, hT, _, hc, _, ho, _, hg, hB⟩ := h
  have hS : OwnS cellRep (fun _ => False) wr a5 c5 g5 108 T := ⟨T.map cellCs, by rw [hT]; exact ho, all2_cells fun c h => (hc c h).1⟩
  exact ⟨a5, c5, by rw [hT], by rw [hT]; exact ho.capLe.1, ho.capLe.2, hS.rd.mono (fun b hb _ => hb.elim (fun h => h.elim) (hg b)), hB⟩
theorem BX.start {w : World} (n : Nat) {w' : World} (hB : Below w.heap.size w w') :
    BX n 0 [] [] w (.slice (some ⟨w'.heap.size, 0, none⟩) 0 0) (.slice (some ⟨w'.heap.size + 1, 0, none⟩) 0 0) ((w'.alloc (.cells #[] 23)).alloc (.cells #[] 108)) :=
  ⟨_, _, 0, 0, some w'.heap.size, some (w'.heap.size + 1), rfl, rfl, rfl, rfl, (fun x h => by simp at h), (fun x h => by simp at h), (Own.emptyAt w' 23 1 _ rfl).alloc _, Own.emptyAt _ 108 2 _ (by simp),
    (fun b h => by cases h; exact ⟨hB.size, fun e => by simp at e⟩), (fun b h => by cases h; have := hB.size; omega), (hB.alloc hB.size _).alloc (by simp; have := hB.size; omega) _⟩
/-- one more in each -/
theorem BX.more {n k : Nat} {w wr w1 w2 : World} {L : List Nat} {T : List CellD} {a5 a4' a5' : Option Addr} {c5 c4' c5' : Nat} {g4 g5 g4' g5' : Option Nat} {o1 o2 : Obj} {r i : Int} (m q : Nat) (hL : L.length = k) (hT : T.length = k) (h64 : ok64 L) (hc : ∀ c ∈ T, okC c ∧ c.2 < n)
    (hg4 : ∀ b, g4 = some b → w.heap.size ≤ b ∧ g5 ≠ some b) (hg5 : ∀ b, g5 = some b → w.heap.size ≤ b) (hB : Below w.heap.size w wr) (h5 : Own wr a5 c5 g5 108 2 k (cellsOf T)) (h5n : ∀ b, g5 = some b → b < wr.heap.size)
    (ho4 : Own w1 a4' c4' g4' 23 1 (k + 1) (u64v L ++ [.int .u64 r])) (hh4 : g4' = g4 ∨ g4' = some (wr.alloc o1).heap.size) (hon4 : Only (fun b => g4 = some b) (wr.alloc o1) w1)
    (ho5 : Own w2 a5' c5' g5' 108 2 (k + 1) (cellsOf T ++ [.int .u64 (q : Nat), .int .u32 i])) (hh5 : g5' = g5 ∨ g5' = some (w1.alloc o2).heap.size) (hon5 : Only (fun b => g5 = some b) (w1.alloc o2) w2)
    (hr : r = (m : Nat)) (hm : m < 18446744073709551616) (hi : i = (k : Nat)) (hkn : k < n) (hn : n ≤ 1000000) (hq : q < 18446744073709551616) :
    BX n (k + 1) (L ++ [m]) (T ++ [(q, k)]) w (.slice a4' (k + 1) c4') (.slice a5' (k + 1) c5') w2 := by
  subst hr hi
  have s1 := hB.size
  have s2 := hon4.size
  have s3 := hon5.size
  simp only [World.size_alloc] at s2 s3
  have l4 := ho4.lt
  have hne : ∀ b, g4' = some b → w.heap.size ≤ b ∧ g5 ≠ some b := fun b hb => by
    rcases hh4 with e | e <;> rw [e] at hb
    · exact hg4 b hb
    · cases hb
      refine ⟨by simp; omega, fun h => ?_⟩
      have := h5n _ h
      simp at this
      omega
  refine ⟨a4', a5', c4', c5', g4', g5', rfl, rfl, by simp [hL], by simp [hT], ?_, ?_, ?_, ?_, fun b hb => ⟨(hne b hb).1, fun h => ?_⟩, fun b hb => ?_, ?_⟩
  · intro x hx
    rcases List.mem_append.1 hx with h | h
    · exact h64 x h
    · simp at h; omega
  · intro x hx
    rcases List.mem_append.1 hx with h | h
    · exact hc x h
    · simp at h; subst h; exact ⟨⟨hq, by show k < 4294967296; omega⟩, hkn⟩
  · have h : u64v (L ++ [m]) = u64v L ++ [.int .u64 (m : Nat)] := by simp [u64v]
    rw [h]
    exact (ho4.alloc o2).only hon5 (fun b hb => (hne b hb).2)
  · rw [cellsOf_snoc]; exact ho5
  · rcases hh5 with e | e
    · exact (hne b hb).2 (e ▸ h)
    · rw [e] at h
      cases h
      have := l4 _ hb
      simp at this
      omega
  · rcases hh5 with e | e <;> rw [e] at hb
    · exact hg5 b hb
    · cases hb; simp; omega
  · have hb1 : Below w.heap.size w w1 := (hB.alloc s1 _).trans (hon4.below (by simp; omega) (fun b hb h => by have := (hg4 b h).1; omega))
    exact (hb1.alloc hb1.size _).trans (hon5.below (by have := hb1.size; simp; omega) (fun b hb h => by have := hg5 b h; omega))
/-- one cell and two numbers anew -/
theorem BX.turn {n i jj : Nat} {w wr : World} {L : List Nat} {T : List CellD} {b4 b5 c4 c5 : Nat} {r : Nat} (n4 : Nat) (hL : L.length = n) (hT : T.length = n) (h64 : ok64 L) (hc : ∀ c ∈ T, okC c ∧ c.2 < n) (hB : Below w.heap.size w wr)
    (h4 : Own wr (some ⟨b4, 0, none⟩) c4 (some b4) 23 1 n (u64v L)) (h5 : Own wr (some ⟨b5, 0, none⟩) c5 (some b5) 108 2 n (cellsOf T)) (hne : b4 ≠ b5) (hb4 : w.heap.size ≤ b4) (hb5 : w.heap.size ≤ b5) (hi : i < n) (hj : jj < n) (hn : n ≤ 1000000) (hr : r < 18446744073709551616) (hm : n4 < 18446744073709551616) :
    BX n n ((L.set jj n4).set i r) (T.set i (L[i], jj)) w (.slice (some ⟨b4, 0, none⟩) n c4) (.slice (some ⟨b5, 0, none⟩) n c5)
      (((((wr.setCell ⟨b5, i * 2, none⟩ (.int .u64 (L[i] : Nat))).setCell ⟨b5, i * 2 + 1, none⟩ (.int .u32 (jj : Nat))).drew).setCell ⟨b4, jj, none⟩ (.int .u64 (n4 : Nat))).setCell ⟨b4, i, none⟩ (.int .u64 (r : Nat))) := by
  have hli : L[i] < 18446744073709551616 := h64 _ (List.getElem_mem _)
  refine ⟨_, _, c4, c5, some b4, some b5, rfl, rfl, by simp [hL], by simp [hT], ?_, ?_, ?_, ?_, (fun b hb => by cases hb; exact ⟨hb4, fun e => by cases e; exact hne rfl⟩), (fun b hb => by cases hb; exact hb5), ?_⟩
  · intro x hx
    rcases List.mem_or_eq_of_mem_set hx with h | h
    · rcases List.mem_or_eq_of_mem_set h with h | h
      · exact h64 x h
      · omega
    · omega
  · intro x hx
    rcases List.mem_or_eq_of_mem_set hx with h | h
    · exact hc x h
    · subst h; exact ⟨⟨hli, by show jj < 4294967296; omega⟩, hj⟩
  · have h := ((h4.setCell (p := ⟨b5, i * 2, none⟩) (fun b hb => by cases hb; exact hne) (.int .u64 (L[i] : Nat))).setCell (p := ⟨b5, i * 2 + 1, none⟩) (fun b hb => by cases hb; exact hne) (.int .u32 (jj : Nat))).ext (ext_drew _)
    have h2 := (h.setCellAt jj (.int .u64 (n4 : Nat))).setCellAt i (.int .u64 (r : Nat))
    have e : u64v ((L.set jj n4).set i r) = ((u64v L).set jj (.int .u64 (n4 : Nat))).set i (.int .u64 (r : Nat)) := by simp [u64v, List.map_set]
    rw [e]
    exact h2
  · rw [← cellsOf_set]
    exact ((((h5.setCellAt _ _).setCellAt _ _).ext (ext_drew _)).setCell (p := ⟨b4, jj, none⟩) (fun b hb => by cases hb; exact hne.symm) _).setCell (p := ⟨b4, i, none⟩) (fun b hb => by cases hb; exact hne.symm) _
  · have h1 : Below w.heap.size w ((wr.setCell ⟨b5, i * 2, none⟩ (.int .u64 (L[i] : Nat))).setCell ⟨b5, i * 2 + 1, none⟩ (.int .u32 (jj : Nat))) := (hB.setCell (by exact hb5) _).setCell (by exact hb5) _
    exact (((h1.trans ((ext_drew _).mono h1.size)).setCell (by exact hb4) _).setCell (by exact hb4) _)
/-- so far the first loop has come -/
def bL (n : Nat) (W : List Nat) (k : Nat) : List Nat := (W.take k).map (fun x => n * x)
def bT (W : List Nat) (k : Nat) : List CellD := (List.range k).map (fun i => (W.sum, i))
theorem bL_succ {n : Nat} {W : List Nat} {k : Nat} (h : k < W.length) : bL n W (k + 1) = bL n W k ++ [n * W[k]] := by
  unfold bL
  rw [List.take_succ_eq_append_getElem h, List.map_append]; rfl
theorem bT_succ (W : List Nat) (k : Nat) : bT W (k + 1) = bT W k ++ [(W.sum, k)] := by
  unfold bT
  rw [List.range_succ, List.map_append]; rfl
theorem bst_all (W : List Nat) : (bL W.length W W.length, bT W W.length) = bstart W := by
  unfold bL bT bstart
  rw [List.take_length]
def BX1 (W : List Nat) (w : World) (v4 v5 i : Value) (wr : World) : Prop := ∃ k : Nat, k ≤ W.length ∧ i = .int .i64 (k : Nat) ∧ BX W.length k (bL W.length W k) (bT W k) w v4 v5 wr
def BX2 (W : List Nat) (w : World) (v4 v5 : Value) (i : Value) (wr : World) : Prop :=
  ∃ (k : Nat) (s : BSt), k ≤ W.length + 1 ∧ i = .int .i64 (k : Nat) ∧ (brun W.sum (W.length + 1 - k) s).2 = buildT W ∧ BX W.length W.length s.1 s.2 w v4 v5 wr
theorem brun_none {q f : Nat} {s : BSt} (h : bnext q s = none) : brun q f s = s := by
  cases f with
  | zero => rfl
  | succ f => rw [brun, h]
theorem bnext_no {q : Nat} {s : BSt} (h : lowI s.1 q = none ∨ highI s.1 q = none) : bnext q s = none := by
  unfold bnext
  rcases h with h | h
  · rw [h]
  · rw [h]; cases lowI s.1 q <;> rfl
theorem brun_step {q f i j : Nat} {s : BSt} (h1 : lowI s.1 q = some i) (h2 : highI s.1 q = some j) : brun q (f + 1) s = brun q f (bturn q s i j) := by
  rw [brun]
  unfold bnext
  rw [h1, h2]
end Go.Proofs.YtcklfffeimnfeaaGreat
