/- Texts merged into one: BuildF, BuildW, BuildT. -/
import Derived.Test.YtlgnpogmgpgdaaaBdPick
import Derived.Test.YtlgnpogmgpgdaaaRowW
namespace Go.Proofs.Ytlgnpogmgpgdaaa
set_option linter.unusedSimpArgs false
set_option linter.unusedVariables false
set_option maxRecDepth 100000
open Go.RowKit

abbrev e64 : Nat → Value := fun x => Value.int .u64 (x : Nat)
def u64v (L : List Nat) : List Value := L.map e64
def ok64 (L : List Nat) : Prop := ∀ x ∈ L, x < 18446744073709551616
def FirstRet (n : Nat) (w : World) (e : Ending) (w' : World) : Prop := ∃ (k : Nat) (f : Bool), e = .returned (.tuple #[.int .i64 (k : Nat), .bool f]) ∧ (f = true → k < n) ∧ Below w.heap.size w w'
def firstI (n : Nat) (w : World) (i : Value) (wr : World) : Prop := ∃ k : Nat, k ≤ n ∧ i = .int .i64 (k : Nat) ∧ Below w.heap.size w wr

set_option maxHeartbeats 1600000 in
set_option maxRecDepth 100000 in
theorem first16_any (L : List Nat) (x : Nat) (b : Bool) (ao : Option Addr) (cap : Nat) (w : World) (hl : L.length ≤ 1000000) (hrd : Rd w ao L.length (u64v L)) :
    Calls Try.prog 57 #[.slice ao L.length cap, .int .u64 (x : Nat), .bool b] w (FirstRet L.length w) := by
  have Hrd := Lib.hid hrd
  clear hrd
  go_enter Try.func57, Try.ntmps57
  go_wp2_with fail
  go_loopw [11] (fun i wr => firstI L.length w i wr) (fun i _ => L.length - (intOf i).toNat)
  case atStart => exact ⟨0, by omega, rfl, Below.refl _ _⟩
  case round =>
    obtain ⟨k, hk, rfl, hB⟩ := hrel
    have HB := Lib.hid hB
    have hs := hB.size
    by_cases hlt : k < L.length
    · obtain ⟨bb, off, rfl, hbb, hc⟩ := Hrd.out.pos (by omega)
      have hc1 : wr.cell? ⟨bb, off + k, none⟩ = some (.int .u64 (L[k] : Nat)) := by
        rw [(bcell hB).1 _ _ hbb, hc k hlt]
        simp [u64v, hlt]
      have hir : (k : Int) < (L.length : Int) := by omega
      have HY := Lib.hid (show FirstRet L.length w (.returned (.tuple #[.int .i64 (k : Nat), .bool true])) wr from ⟨k, true, rfl, fun _ => hlt, hB⟩)
      clear hB hc
      generalize L[k] = q at hc1
      cases b with
      | true =>
        by_cases h : x < q
        · have hd : decide ((x : Int) < (q : Int)) = true := decide_eq_true (by omega)
          have hd' : decide (x < q) = true := decide_eq_true h
          clear h
          go_wp2_with fail
          go_ret2
          exact HY.out
        · have hd : decide ((x : Int) < (q : Int)) = false := decide_eq_false (by omega)
          have hd' : decide (x < q) = false := decide_eq_false h
          clear h
          go_wp2_with fail
          exact ⟨⟨k + 1, by omega, by go_num, HB.out⟩, by simp [intOf]; omega⟩
      | false =>
        by_cases h : q < x
        · have hd : decide ((q : Int) < (x : Int)) = true := decide_eq_true (by omega)
          have hd' : decide (q < x) = true := decide_eq_true h
          clear h
          go_wp2_with fail
          go_ret2
          exact HY.out
        · have hd : decide ((q : Int) < (x : Int)) = false := decide_eq_false (by omega)
          have hd' : decide (q < x) = false := decide_eq_false h
          clear h
          go_wp2_with fail
          exact ⟨⟨k + 1, by omega, by go_num, HB.out⟩, by simp [intOf]; omega⟩
    · obtain rfl : k = L.length := by omega
      clear hB
      go_wp2_with fail
      go_ret2
      exact ⟨0, false, rfl, (fun h => by cases h), HB.out⟩
end Go.Proofs.Ytlgnpogmgpgdaaa

namespace Go.Proofs.Ytlgnpogmgpgdaaa
set_option linter.unusedSimpArgs false
set_option linter.unusedVariables false
set_option maxRecDepth 100000
open Go.RowKit

theorem u64Elem : Elem Try.prog 103 22 1 8 (.int .u64 0) := Elem.mk' Try.underlying103 (by kernel_rfl) rfl (by decide)
theorem cellElem : Elem Try.prog 32 85 2 16 (.agg #[.int .u64 0, .int .u32 0]) := Elem.mk' Try.underlying32 (by kernel_rfl) rfl (by decide)
theorem srcManyC {P : Program} {tx e' : TypeId} (hk : P.underlying tx = some (.slice e')) (w : World) (cs : List Value) (t : TypeId) (k size n : Nat) (hn : n = w.heap.size) (hs : cs.length = size) (h1 : ∀ u ∈ cs, u.oneCell' = true) :
    Src P size tx (.slice (some ⟨n, 0, none⟩) 1 k) 1 cs (w.alloc (.cells cs.toArray t)) := by
  subst hn
  exact Src.ofSlice (w.alloc (.cells cs.toArray t)) hk ⟨w.heap.size, 0, none⟩ 1 k cs (by omega) (fun j u hu => by
    rw [Addr.add_lit, Nat.zero_add, World.cell?_alloc_new]
    simpa using hu) h1
/-- one cell of what is owned -/
theorem Own.setCellAt {w : World} {b cap n size : Nat} {e : TypeId} {xs : List Value} (h : Own w (some ⟨b, 0, none⟩) cap (some b) e size n xs) (j : Nat) (v : Value) :
    Own (w.setCell ⟨b, j, none⟩ v) (some ⟨b, 0, none⟩) cap (some b) e size n (xs.set j v) := by
  refine ⟨by rw [List.length_set]; exact h.1, ?_⟩
  rcases h.2 with ⟨h1, _⟩ | ⟨b', cur, hg, ha, hh, hn, hc, hs, ht⟩
  · cases h1
  · cases hg
    refine .inr ⟨b, cur.setIfInBounds j v, rfl, rfl, ?_, hn, hc, by simpa using hs, ?_⟩
    · show (w.heap.modify b _)[b]? = _
      rw [Array.getElem?_modify, if_pos rfl, hh]
      rfl
    · rw [Array.toList_setIfInBounds, ← ht, List.take_set]
def cellCs (x : CellD) : List Value := [.int .u64 (x.1 : Nat), .int .u32 (x.2 : Nat)]
def cellsOf (T : List CellD) : List Value := (T.map cellCs).flatten
theorem cellsOf_snoc (T : List CellD) (c : CellD) : cellsOf (T ++ [c]) = cellsOf T ++ cellCs c := by simp [cellsOf]
theorem cellsOf_set : ∀ (T : List CellD) (i : Nat) (c : CellD), ((cellsOf T).set (i * 2) (.int .u64 (c.1 : Nat))).set (i * 2 + 1) (.int .u32 (c.2 : Nat)) = cellsOf (T.set i c)
  | [], i, c => rfl
  | x :: T, 0, c => by simp [cellsOf, cellCs]
  | x :: T, i + 1, c => by
    have h := cellsOf_set T i c
    simp only [cellsOf, cellCs, List.map_cons, List.flatten_cons, List.set_cons_succ, List.cons_append, List.nil_append, show (i + 1) * 2 = i * 2 + 1 + 1 by omega] at h ⊢
    rw [h]
theorem cellRep_ok {W : World} {fp : Nat → Prop} {x : CellD} (h : okC x) : cellRep.ok W fp x (cellCs x) := ⟨[_], [_], rfl, ⟨rfl, h.1⟩, ⟨rfl, h.2⟩⟩
theorem all2_cells {W : World} {fp : Nat → Prop} : ∀ {T : List CellD}, (∀ c ∈ T, okC c) → All2 (fun x cs => cellRep.ok W fp x cs) T (T.map cellCs)
  | [], _ => .nil
  | x :: T, h => .cons (cellRep_ok (h x (by simp))) (all2_cells fun c hc => h c (by simp [hc]))
theorem u64w_nat (z : Int) : ∃ m : Nat, m < 18446744073709551616 ∧ IntKind.u64.wrap z = (m : Int) := by
  refine ⟨(IntKind.u64.wrap z).toNat, ?_, ?_⟩ <;> (simp [IntKind.wrap, IntKind.bits, IntKind.signed]; omega)
/-- what a call that builds a table for n arcs leaves -/
def BuildRet (n : Nat) (w : World) (e : Ending) (w' : World) : Prop :=
  ∃ (T : List CellD) (ao : Option Addr) (cap : Nat), e = .returned (.slice ao n cap) ∧ T.length = n ∧ (∀ c ∈ T, c.2 < n) ∧ n ≤ cap ∧ cap ≤ maxLen ∧ RdS cellRep (fun b => w.heap.size ≤ b) w' ao T ∧ Below w.heap.size w w'
theorem BuildRet.ext {n : Nat} {w wp w3 : World} {e : Ending} (h : BuildRet n w e wp) (hB : Below wp.heap.size wp w3) : BuildRet n w e w3 := by
  obtain ⟨T, ao, cap, h1, h2, h3, h4, h5, h6, h7⟩ := h
  exact ⟨T, ao, cap, h1, h2, h3, h4, h5, h6.ext hB, h7.trans (hB.mono h7.size)⟩
/-- the two rows, so many in each -/
def BI (n k : Nat) (w : World) (v4 v5 : Value) (wr : World) : Prop :=
  ∃ (L : List Nat) (T : List CellD) (a4 a5 : Option Addr) (c4 c5 : Nat) (g4 g5 : Option Nat), v4 = .slice a4 k c4 ∧ v5 = .slice a5 k c5 ∧ L.length = k ∧ T.length = k ∧ ok64 L ∧ (∀ c ∈ T, okC c ∧ c.2 < n) ∧
    Own wr a4 c4 g4 22 1 k (u64v L) ∧ Own wr a5 c5 g5 85 2 k (cellsOf T) ∧ (∀ b, g4 = some b → w.heap.size ≤ b ∧ g5 ≠ some b) ∧ (∀ b, g5 = some b → w.heap.size ≤ b) ∧ Below w.heap.size w wr
def BI1 (n : Nat) (w : World) (v4 v5 i : Value) (wr : World) : Prop := ∃ k : Nat, k ≤ n ∧ i = .int .i64 (k : Nat) ∧ BI n k w v4 v5 wr
def BI2 (n : Nat) (w : World) (v4 v5 : Value) (i : Value) (wr : World) : Prop := ∃ k : Nat, k ≤ n + 1 ∧ i = .int .i64 (k : Nat) ∧ BI n n w v4 v5 wr
theorem BI.ret {n : Nat} {w wr : World} {v4 v5 : Value} (h : BI n n w v4 v5 wr) : BuildRet n w (.returned v5) wr := by
  obtain ⟨L, T, a4, a5, c4, c5, g4, g5, rfl, rfl, hL, hT, _, hc, _, ho, _, hg, hB⟩ := h
  have hS : OwnS cellRep (fun _ => False) wr a5 c5 g5 85 T := ⟨T.map cellCs, by rw [hT]; exact ho, all2_cells fun c h => (hc c h).1⟩
  exact ⟨T, a5, c5, rfl, hT, fun c h => (hc c h).2, ho.capLe.1, ho.capLe.2, hS.rd.mono (fun b hb _ => hb.elim (fun h => h.elim) (hg b)), hB⟩
theorem BI.start {w : World} (n : Nat) {w' : World} (hB : Below w.heap.size w w') :
    BI n 0 w (.slice (some ⟨w'.heap.size, 0, none⟩) 0 0) (.slice (some ⟨w'.heap.size + 1, 0, none⟩) 0 0) ((w'.alloc (.cells #[] 22)).alloc (.cells #[] 85)) :=
  ⟨[], [], _, _, 0, 0, some w'.heap.size, some (w'.heap.size + 1), rfl, rfl, rfl, rfl, (fun x h => by simp at h), (fun x h => by simp at h), (Own.emptyAt w' 22 1 _ rfl).alloc _, Own.emptyAt _ 85 2 _ (by simp),
    (fun b h => by cases h; exact ⟨hB.size, fun e => by simp at e⟩), (fun b h => by cases h; have := hB.size; omega), (hB.alloc hB.size _).alloc (by simp; have := hB.size; omega) _⟩
/-- one more in each -/
theorem BI.more {n k : Nat} {w wr w1 w2 : World} {L : List Nat} {T : List CellD} {a5 a4' a5' : Option Addr} {c5 c4' c5' : Nat} {g4 g5 g4' g5' : Option Nat} {o1 o2 : Obj} {r i : Int} (m q : Nat) (hL : L.length = k) (hT : T.length = k) (h64 : ok64 L) (hc : ∀ c ∈ T, okC c ∧ c.2 < n)
    (hg4 : ∀ b, g4 = some b → w.heap.size ≤ b ∧ g5 ≠ some b) (hg5 : ∀ b, g5 = some b → w.heap.size ≤ b) (hB : Below w.heap.size w wr) (h5 : Own wr a5 c5 g5 85 2 k (cellsOf T)) (h5n : ∀ b, g5 = some b → b < wr.heap.size)
    (ho4 : Own w1 a4' c4' g4' 22 1 (k + 1) (u64v L ++ [.int .u64 r])) (hh4 : g4' = g4 ∨ g4' = some (wr.alloc o1).heap.size) (hon4 : Only (fun b => g4 = some b) (wr.alloc o1) w1)
    (ho5 : Own w2 a5' c5' g5' 85 2 (k + 1) (cellsOf T ++ [.int .u64 (q : Nat), .int .u32 i])) (hh5 : g5' = g5 ∨ g5' = some (w1.alloc o2).heap.size) (hon5 : Only (fun b => g5 = some b) (w1.alloc o2) w2)
    (hr : r = (m : Nat)) (hm : m < 18446744073709551616) (hi : i = (k : Nat)) (hkn : k < n) (hn : n ≤ 1000000) (hq : q < 18446744073709551616) :
    BI n (k + 1) w (.slice a4' (k + 1) c4') (.slice a5' (k + 1) c5') w2 := by
  subst hr hi
  have s1 := hB.size
  have s2 := hon4.size
  have s3 := hon5.size
  simp only [World.size_alloc] at s2 s3
  have l4 := ho4.lt
  have hne : ∀ b, g4' = some b → w.heap.size ≤ b ∧ g5 ≠ some b := fun b hb => by
    rcases hh4 with e | e <;> rw [e] at hb
    · exact hg4 b hb
    · cases hb
      refine ⟨by simp; omega, fun h => ?_⟩
      have := h5n _ h
      simp at this
      omega
  refine ⟨L ++ [m], T ++ [(q, k)], a4', a5', c4', c5', g4', g5', rfl, rfl, by simp [hL], by simp [hT], ?_, ?_, ?_, ?_, fun b hb => ⟨(hne b hb).1, fun h => ?_⟩, fun b hb => ?_, ?_⟩
  · intro x hx
    rcases List.mem_append.1 hx with h | h
    · exact h64 x h
    · simp at h; omega
  · intro x hx
    rcases List.mem_append.1 hx with h | h
    · exact hc x h
    · simp at h; subst h; exact ⟨⟨hq, by show k < 4294967296; omega⟩, hkn⟩
  · have h : u64v (L ++ [m]) = u64v L ++ [.int .u64 (m : Nat)] := by simp [u64v]
    rw [h]
    exact (ho4.alloc o2).only hon5 (fun b hb => (hne b hb).2)
  · rw [cellsOf_snoc]; exact ho5
  · rcases hh5 with e | e
    · exact (hne b hb).2 (e ▸ h)
    · rw [e] at h
      cases h
      have := l4 _ hb
      simp at this
      omega
  · rcases hh5 with e | e <;> rw [e] at hb
    · exact hg5 b hb
    · cases hb; simp; omega
  · have hb1 : Below w.heap.size w w1 := (hB.alloc s1 _).trans (hon4.below (by simp; omega) (fun b hb h => by have := (hg4 b h).1; omega))
    exact (hb1.alloc hb1.size _).trans (hon5.below (by have := hb1.size; simp; omega) (fun b hb h => by have := hg5 b h; omega))
/-- one cell and two numbers anew -/
theorem BI.turn {n i jj : Nat} {w wr : World} {L : List Nat} {T : List CellD} {b4 b5 c4 c5 : Nat} {r : Nat} (n4 : Nat) (hL : L.length = n) (hT : T.length = n) (h64 : ok64 L) (hc : ∀ c ∈ T, okC c ∧ c.2 < n) (hB : Below w.heap.size w wr)
    (h4 : Own wr (some ⟨b4, 0, none⟩) c4 (some b4) 22 1 n (u64v L)) (h5 : Own wr (some ⟨b5, 0, none⟩) c5 (some b5) 85 2 n (cellsOf T)) (hne : b4 ≠ b5) (hb4 : w.heap.size ≤ b4) (hb5 : w.heap.size ≤ b5) (hi : i < n) (hj : jj < n) (hn : n ≤ 1000000) (hr : r < 18446744073709551616) (hm : n4 < 18446744073709551616) :
    BI n n w (.slice (some ⟨b4, 0, none⟩) n c4) (.slice (some ⟨b5, 0, none⟩) n c5)
      (((((wr.setCell ⟨b5, i * 2, none⟩ (.int .u64 (L[i] : Nat))).setCell ⟨b5, i * 2 + 1, none⟩ (.int .u32 (jj : Nat))).drew).setCell ⟨b4, jj, none⟩ (.int .u64 (n4 : Nat))).setCell ⟨b4, i, none⟩ (.int .u64 (r : Nat))) := by
  have hli : L[i] < 18446744073709551616 := h64 _ (List.getElem_mem _)
  refine ⟨(L.set jj n4).set i r, T.set i (L[i], jj), _, _, c4, c5, some b4, some b5, rfl, rfl, by simp [hL], by simp [hT], ?_, ?_, ?_, ?_, (fun b hb => by cases hb; exact ⟨hb4, fun e => by cases e; exact hne rfl⟩), (fun b hb => by cases hb; exact hb5), ?_⟩
  · intro x hx
    rcases List.mem_or_eq_of_mem_set hx with h | h
    · rcases List.mem_or_eq_of_mem_set h with h | h
      · exact h64 x h
      · omega
    · omega
  · intro x hx
    rcases List.mem_or_eq_of_mem_set hx with h | h
    · exact hc x h
    · subst h; exact ⟨⟨hli, by show jj < 4294967296; omega⟩, hj⟩
  · have h := ((h4.setCell (p := ⟨b5, i * 2, none⟩) (fun b hb => by cases hb; exact hne) (.int .u64 (L[i] : Nat))).setCell (p := ⟨b5, i * 2 + 1, none⟩) (fun b hb => by cases hb; exact hne) (.int .u32 (jj : Nat))).ext (ext_drew _)
    have h2 := (h.setCellAt jj (.int .u64 (n4 : Nat))).setCellAt i (.int .u64 (r : Nat))
    have e : u64v ((L.set jj n4).set i r) = ((u64v L).set jj (.int .u64 (n4 : Nat))).set i (.int .u64 (r : Nat)) := by simp [u64v, List.map_set]
    rw [e]
    exact h2
  · rw [← cellsOf_set]
    exact ((((h5.setCellAt _ _).setCellAt _ _).ext (ext_drew _)).setCell (p := ⟨b4, jj, none⟩) (fun b hb => by cases hb; exact hne.symm) _).setCell (p := ⟨b4, i, none⟩) (fun b hb => by cases hb; exact hne.symm) _
  · have h1 : Below w.heap.size w ((wr.setCell ⟨b5, i * 2, none⟩ (.int .u64 (L[i] : Nat))).setCell ⟨b5, i * 2 + 1, none⟩ (.int .u32 (jj : Nat))) := (hB.setCell (by exact hb5) _).setCell (by exact hb5) _
    exact (((h1.trans ((ext_drew _).mono h1.size)).setCell (by exact hb4) _).setCell (by exact hb4) _)
end Go.Proofs.Ytlgnpogmgpgdaaa

namespace Go.Proofs.Ytlgnpogmgpgdaaa
set_option linter.unusedSimpArgs false
set_option linter.unusedVariables false
set_option maxRecDepth 100000
open Go.RowKit

theorem sumA_le {l : List ArcD} (h : ∀ k (hk : k < l.length), okA l[k]) : ∀ k, k ≤ l.length → sumA (l.take k) ≤ k * 4294967296
  | 0, _ => by simp [sumA]
  | k + 1, hk => by
    have h1 := sumA_le h k (by omega)
    have h2 := h k (by omega)
    rw [sumA_take l k (by omega)]
    have := h2.2
    omega
set_option maxHeartbeats 3200000 in
set_option maxRecDepth 100000 in
theorem build_any (l : List ArcD) (ao : Option Addr) (cap : Nat) (fp : Nat → Prop) (w : World) (hl : l.length ≤ 100000) (hrd : RdS arcRep fp w ao l) :
    Calls Try.prog 17 #[.slice ao l.length cap] w (BuildRet l.length w) := by
  have hE4 := u64Elem
  have hE5 := cellElem
  have HS := Lib.hid (fun W (h : Below w.heap.size w W) => rsum_any l ao cap fp W (by omega) (hrd.ext h))
  have Hrd := Lib.hid hrd
  have hq : ∃ q : Nat, q = sumA l ∧ q < 18446744073709551616 := ⟨sumA l, rfl, by
    have h := sumA_le (fun k hk => by obtain ⟨_, _, _, _, _, _, h⟩ := hrd.arc k hk; exact h) l.length (Nat.le_refl _)
    rw [List.take_length] at h
    omega⟩
  obtain ⟨q, hq, hq64⟩ := hq
  rw [← hq] at HS
  clear hrd hq
  go_enter Try.func17, Try.ntmps17
  go_wp2_with (go_at_call 56; (with_reducible refine (HS.out _ (Below.refl _ _)).mono ?_); rintro e w1 ⟨rfl, hB⟩; have B1 := Lib.hid hB; clear hB)
  go_loopw [4, 5, 18] (fun v4 v5 i wr => BI1 l.length w v4 v5 i wr) (fun _ _ i _ => l.length - (intOf i).toNat)
  case atStart => exact ⟨0, by omega, rfl, BI.start l.length B1.out⟩
  case round =>
    obtain ⟨k, hk, rfl, hI⟩ := hrel
    rename World => wo
    by_cases hlt : k < l.length
    · obtain ⟨L, T, a4, a5, c4, c5, g4, g5, rfl, rfl, hL, hT, h64, hc, h4, h5, hg4, hg5, hB⟩ := hI
      obtain ⟨bb, off, rfl, hbb, hc0', hc1', hok⟩ := Hrd.out.arc k hlt
      have hc1 := ((bcell hB).1 _ _ hbb).trans hc1'
      have hir : (k : Int) < (l.length : Int) := by omega
      have H4 := Lib.hid h4
      have H5 := Lib.hid h5
      have Hp := Lib.hid (And.intro hL (And.intro hT (And.intro h64 (And.intro hc (And.intro hg4 (And.intro hg5 (And.intro hB h5.lt)))))))
      clear h4 h5 hc0' hc1' hL hT h64 hc hg4 hg5 hB
      generalize l[k] = x at hc1 hok
      obtain ⟨x0, x1⟩ := x
      simp only at hc1
      have hx1 : x1 < 4294967296 := hok.2
      clear hok
      go_wp2_with (first
        | (refine wpList_app rfl (.tmp 21) (.tmp 32) 103 103 rfl hE4 (H4.out.alloc _) rfl rfl (srcManyC Try.underlying103 _ _ _ _ 1 _ (by simp) rfl (by simp [Value.oneCell'])) (by simp [maxLen]; omega) (by omega) ?_; intro a4' c4' g4' w3 ho4 hg4' hon4; have Ho4 := Lib.hid ho4; have Hg4 := Lib.hid hg4'; have Hon4 := Lib.hid hon4; clear ho4 hg4' hon4)
        | (refine wpList_app rfl (.tmp 34) (.tmp 39) 32 32 rfl hE5 (((H5.out.alloc _).only Hon4.out (fun b hb h => (Hp.out.2.2.2.2.1 b h).2 hb)).alloc _) rfl rfl (srcManyC Try.underlying32 _ _ _ _ 2 _ (by simp) rfl (by simp [Value.oneCell'])) (by simp [maxLen]; omega) (by omega) ?_; intro a5' c5' g5' w4 ho5 hg5' hon5; have Ho5 := Lib.hid ho5; have Hg5 := Lib.hid hg5'; have Hon5 := Lib.hid hon5; clear ho5 hg5' hon5)
        | fail "no arm")
      obtain ⟨hL, hT, h64, hc, hg4, hg5, hB, h5n⟩ := Hp.out
      obtain ⟨m, hm, hr⟩ := u64w_nat ((l.length : Int) * (x1 : Int))
      exact ⟨⟨k + 1, by omega, by go_num, BI.more m q hL hT h64 hc hg4 hg5 hB H5.out h5n Ho4.out Hg4.out Hon4.out Ho5.out Hg5.out Hon5.out hr hm rfl hlt (by omega) hq64⟩, by simp [intOf]; omega⟩
    · obtain rfl : k = l.length := by omega
      have HI := Lib.hid hI
      clear hI
      go_wp2_with fail
      go_loopw [7] (fun i wr => BI2 l.length w u4 u5 i wr) (fun i _ => l.length + 1 - (intOf i).toNat)
      case atStart => exact ⟨0, by omega, rfl, HI.out⟩
      case round =>
        obtain ⟨k, hk, rfl, hI⟩ := hrel
        rename World => wp
        have HR := Lib.hid hI.ret
        by_cases hlt : k ≤ l.length
        · have hle : decide ((k : Int) ≤ (l.length : Int)) = true := decide_eq_true (by omega)
          have hle' : decide (k ≤ l.length) = true := decide_eq_true hlt
          obtain ⟨L, T, a4, a5, c4, c5, g4, g5, rfl, rfl, hL, hT, h64, hc, h4, h5, hg4, hg5, hB⟩ := hI
          have hbB := hB.size
          have HF := Lib.hid (fun b (W : World) (h : Below wp.heap.size wp W) => first16_any L q b a4 c4 W (by omega) (by rw [hL]; exact (h4.ext h).rd))
          rw [hL] at HF
          have H4 := Lib.hid h4
          have H5 := Lib.hid h5
          have Hp := Lib.hid (And.intro hL (And.intro hT (And.intro h64 (And.intro hc (And.intro hg4 (And.intro hg5 hB))))))
          clear h4 h5 hL hT h64 hc hg4 hg5 hB
          go_upto_region 15 with (first
            | (go_at_call 57; (with_reducible refine (HF.out false _ (Below.refl _ _)).mono ?_); rintro e w2 ⟨i1, f1, rfl, hf1, hB2⟩; have B2 := Lib.hid hB2; clear hB2)
            | (go_at_call 57; (with_reducible refine (HF.out true _ B2.out).mono ?_); rintro e w3 ⟨i2, f2, rfl, hf2, hB3⟩; have B3 := Lib.hid (B2.out.trans (hB3.mono B2.out.size)); clear hB3)
            | fail "no arm")
          have hno : (f1 = false ∨ f2 = false) ∨ (f1 = true ∧ f2 = true) := by cases f1 <;> cases f2 <;> simp
          rcases hno with hno | ⟨rfl, rfl⟩
          · have HR3 := Lib.hid (HR.out.ext B3.out)
            clear hf1 hf2
            have hx : (f1 = false) ∨ (f1 = true ∧ f2 = false) := by cases f1 <;> cases f2 <;> simp_all
            rcases hx with rfl | ⟨rfl, rfl⟩
            · go_wp2_with fail
              go_ret
              exact HR3.out
            · go_wp2_with fail
              go_ret
              exact HR3.out
          · have h1 := hf1 rfl
            have h2 := hf2 rfl
            obtain ⟨hL, hT, h64, hc, hg4, hg5, hB⟩ := Hp.out
            obtain ⟨b4, rfl, rfl, hb4⟩ := H4.out.pos (by omega)
            obtain ⟨b5, rfl, rfl, hb5⟩ := H5.out.pos (by omega)
            have h4 := H4.out.ext B3.out
            have h5 := H5.out.ext B3.out
            have hne : b4 ≠ b5 := fun e => (hg4 b4 rfl).2 (by rw [e])
            have hl4 : w.heap.size ≤ b4 := (hg4 b4 rfl).1
            have hl5 : w.heap.size ≤ b5 := hg5 b5 rfl
            have hBn := hB.trans (B3.out.mono hbB)
            have hth : w3.there b5 (i1 * 2) 2 := fun j hj => ⟨by rw [h5.cell _ (by omega)]; simp [h5.len]; omega, h5.frozen _⟩
            have ha : w3.cell? ⟨b4, i1, none⟩ = some (.int .u64 (L[i1] : Nat)) := by rw [h4.cell _ (by omega)]; simp [u64v, hL, h1]
            obtain ⟨w4, hw4⟩ : ∃ w4, (w3.setCell ⟨b5, i1 * 2, none⟩ (.int .u64 (L[i1] : Nat))).setCell ⟨b5, i1 * 2 + 1, none⟩ (.int .u32 (i2 : Nat)) = w4 := ⟨_, rfl⟩
            have h4w : Own w4 (some ⟨b4, 0, none⟩) c4 (some b4) 22 1 l.length (u64v L) := by
              rw [← hw4]
              exact (h4.setCell (p := ⟨b5, i1 * 2, none⟩) (fun b hb => by cases hb; exact hne) _).setCell (p := ⟨b5, i1 * 2 + 1, none⟩) (fun b hb => by cases hb; exact hne) _
            have hi1 : w4.cell? ⟨b4, i1, none⟩ = some (.int .u64 (L[i1] : Nat)) := by rw [h4w.cell _ (by omega)]; simp [u64v, hL, h1]
            have hi2 : w4.cell? ⟨b4, i2, none⟩ = some (.int .u64 (L[i2] : Nat)) := by rw [h4w.cell _ (by omega)]; simp [u64v, hL, h2]
            have f1 := h4w.frozen i1
            have f2 := h4w.frozen i2
            have HT := Lib.hid (show ∀ r m : Nat, r < 18446744073709551616 → m < 18446744073709551616 → BI l.length l.length w (.slice (some ⟨b4, 0, none⟩) l.length c4) (.slice (some ⟨b5, 0, none⟩) l.length c5) ((w4.drew.setCell ⟨b4, i2, none⟩ (.int .u64 (m : Nat))).setCell ⟨b4, i1, none⟩ (.int .u64 (r : Nat))) from
              fun r m hr hm => by rw [← hw4]; exact BI.turn (r := r) m hL hT h64 hc hBn h4 h5 hne hl4 hl5 h1 h2 (by omega) hr hm)
            have Hth := Lib.hid hth
            have Hw4 := Lib.hid hw4
            have hir1 : (i1 : Int) < (l.length : Int) := by omega
            have hir2 : (i2 : Int) < (l.length : Int) := by omega
            clear hth hw4
            generalize L[i1] = x1 at ha hi1 HT Hw4
            generalize L[i2] = x2 at hi2
            clear h4w h4 h5 hL hT h64 hc hg4 hg5 hB hBn hb4 hb5 hl4 hl5 H4 H5 Hp HF HI HR HS hf1 hf2
            have HZ := Lib.hid (show ∀ (z : Int), BI l.length l.length w (.slice (some ⟨b4, 0, none⟩) l.length c4) (.slice (some ⟨b5, 0, none⟩) l.length c5) ((w4.drew.setCell ⟨b4, i2, none⟩ (.int .u64 (IntKind.u64.wrap z))).setCell ⟨b4, i1, none⟩ (.int .u64 (q : Nat))) from
              fun z => by obtain ⟨m, hm, e⟩ := u64w_nat z; rw [e]; exact HT.out q m hq64 hm)
            clear HT
            by_cases hij : i1 = i2
            · subst hij
              go_upto_region 17 with (first
                | (refine wpList_store_mid rfl _ _ _ rfl b5 (i1 * 2) _ rfl rfl Hth.out (by kernel_rfl) (by simp [Value.oneCell']) ?_; change wpList _ _ _ _ _ (World.setCell (World.setCell w3 ⟨b5, i1 * 2, none⟩ _) ⟨b5, i1 * 2 + 1, none⟩ _); rw [Hw4.out])
                | fail "no arm")
              go_region
              all_goals go_wp2_with fail
              all_goals go_roundw
              all_goals first
                | exact ⟨k + 1, by omega, by go_num, HZ.out _⟩
                | (simp [intOf]; omega)
            · have hij' : ¬ i2 = i1 := fun e => hij e.symm
              go_upto_region 17 with (first
                | (refine wpList_store_mid rfl _ _ _ rfl b5 (i1 * 2) _ rfl rfl Hth.out (by kernel_rfl) (by simp [Value.oneCell']) ?_; change wpList _ _ _ _ _ (World.setCell (World.setCell w3 ⟨b5, i1 * 2, none⟩ _) ⟨b5, i1 * 2 + 1, none⟩ _); rw [Hw4.out])
                | fail "no arm")
              go_region
              all_goals go_wp2_with fail
              all_goals go_roundw
              all_goals first
                | exact ⟨k + 1, by omega, by go_num, HZ.out _⟩
                | (simp [intOf]; omega)
        · have hle : decide ((k : Int) ≤ (l.length : Int)) = false := decide_eq_false (by omega)
          have hle' : decide (k ≤ l.length) = false := decide_eq_false hlt
          obtain ⟨L, T, a4, a5, c4, c5, g4, g5, rfl, rfl, hI⟩ := hI
          clear hI
          go_wp2_with fail
          go_ret
          exact HR.out
end Go.Proofs.Ytlgnpogmgpgdaaa
