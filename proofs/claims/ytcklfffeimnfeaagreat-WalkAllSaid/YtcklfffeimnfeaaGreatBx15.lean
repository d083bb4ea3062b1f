/- Texts merged into one: InsLay, PoorW, ArcMay, PickW, BuildF. -/
import Derived.Shelf.Spec.SlicesInsertGrow
import Derived.Shelf.Slices.SearchI
import Derived.Shelf.Slices.Empties
import Derived.Test.YtcklfffeimnfeaaGreatProg
import Derived.Test.YtcklfffeimnfeaaGreatBx00
import Derived.Test.YtcklfffeimnfeaaGreatBx08
set_option maxRecDepth 100000
set_option maxHeartbeats 12800000
set_option linter.unusedSimpArgs false
set_option linter.unusedVariables false
namespace Go.Proofs.YtcklfffeimnfeaaGreat
open Go.Shelf
def insInt_ren : Go.Shelf.Ren := ⟨fun | 21 => 140 | 27 => 153 | 28 => 154 | 35 => 168 | 39 => 172 | n => n, fun | 22 => 173 | 3 => 3 | 4 => 4 | 0 => 0 | n => n, fun | n => n⟩
theorem insInt : Go.Proofs.Lays2.n21 Tryz.prog insInt_ren := {
  mixed := by kernel_rfl
  f21 := Tryz.func140.trans (congrArg some (by kernel_rfl))
  f27 := Tryz.func153.trans (congrArg some (by kernel_rfl))
  f28 := Tryz.func154.trans (congrArg some (by kernel_rfl))
  f35 := Tryz.func168.trans (congrArg some (by kernel_rfl))
  f39 := Tryz.func172.trans (congrArg some (by kernel_rfl))
  t0 := Tryz.underlying0
  a0 := Tryz.isAgg0
  z0 := Tryz.sizeOf0
  v0 := Tryz.zeroValue0
  t3 := Tryz.underlying3
  a3 := Tryz.isAgg3
  z3 := Tryz.sizeOf3
  v3 := Tryz.zeroValue3
  t4 := Tryz.underlying4
  a4 := Tryz.isAgg4
  z4 := Tryz.sizeOf4
  v4 := Tryz.zeroValue4
  t22 := Tryz.underlying173
  a22 := Tryz.isAgg173
  z22 := Tryz.sizeOf173
  v22 := Tryz.zeroValue173
  i3 := by kernel_rfl }
def bsInt_ren : Go.Shelf.Ren := ⟨fun | 25 => 139 | 31 => 151 | 32 => 152 | 37 => 167 | n => n, fun | 22 => 173 | 3 => 3 | 4 => 4 | 40 => 119 | 0 => 0 | n => n, fun | n => n⟩
theorem bsInt : Go.Proofs.Lays2.n25 Tryz.prog bsInt_ren := {
  mixed := by kernel_rfl
  f25 := Tryz.func139.trans (congrArg some (by kernel_rfl))
  f31 := Tryz.func151.trans (congrArg some (by kernel_rfl))
  f32 := Tryz.func152.trans (congrArg some (by kernel_rfl))
  f37 := Tryz.func167.trans (congrArg some (by kernel_rfl))
  t0 := Tryz.underlying0
  a0 := Tryz.isAgg0
  z0 := Tryz.sizeOf0
  v0 := Tryz.zeroValue0
  t3 := Tryz.underlying3
  a3 := Tryz.isAgg3
  z3 := Tryz.sizeOf3
  v3 := Tryz.zeroValue3
  t4 := Tryz.underlying4
  a4 := Tryz.isAgg4
  z4 := Tryz.sizeOf4
  v4 := Tryz.zeroValue4
  t22 := Tryz.underlying173
  a22 := Tryz.isAgg173
  z22 := Tryz.sizeOf173
  v22 := Tryz.zeroValue173
  t40 := Tryz.underlying119
  a40 := Tryz.isAgg119
  z40 := Tryz.sizeOf119
  v40 := Tryz.zeroValue119 }
end Go.Proofs.YtcklfffeimnfeaaGreat

namespace Go.Proofs.YtcklfffeimnfeaaGreat
open Go.RowKit

def i64v (P : List Nat) : List Value := P.map (fun x => .int .i64 (x : Nat))
theorem i64v_one (P : List Nat) : ∀ v ∈ i64v P, v.oneCell' = true := fun v hv => by
  obtain ⟨x, _, rfl⟩ := List.mem_map.1 hv
  rfl
theorem setsAt_get : ∀ (vs : List Value) (o : Nat) (cur : Array Value) (i : Nat), o + vs.length ≤ cur.size → (setsAt cur o vs)[i]? = if o ≤ i ∧ i < o + vs.length then vs[i - o]? else cur[i]?
  | [], o, cur, i, _ => by simp [setsAt]; omega
  | v :: r, o, cur, i, h => by
    simp only [List.length_cons] at h ⊢
    rw [setsAt, setsAt_get r (o + 1) _ i (by simp; omega)]
    by_cases h1 : o + 1 ≤ i ∧ i < o + 1 + r.length
    · rw [if_pos h1, if_pos (by omega), show i - o = (i - (o + 1)) + 1 by omega, List.getElem?_cons_succ]
    · rw [if_neg h1, Array.getElem?_setIfInBounds]
      by_cases h2 : o = i
      · subst h2
        rw [if_pos rfl, if_pos (by omega), if_pos (by omega)]; simp
      · rw [if_neg h2, if_neg (by omega)]
/-- the row is a call's own (block g), from whatever place on, and reads as P -/
def PoorR (w : World) (ao : Option Addr) (cap : Nat) (g : Option Nat) (P : List Nat) : Prop :=
  P.length ≤ cap ∧ cap ≤ maxLen ∧ ((ao = none ∧ g = none ∧ cap = 0) ∨ ∃ b off cur, g = some b ∧ ao = some ⟨b, off, none⟩ ∧ w.heap[b]? = some (.cells cur 3 (0, 0)) ∧ off + cap ≤ cur.size ∧ ∀ i, i < P.length → cur[off + i]? = (i64v P)[i]?)
theorem PoorR.nil (w : World) : PoorR w none 0 none [] := ⟨Nat.le_refl _, by simp [maxLen], .inl ⟨rfl, rfl, rfl⟩⟩
theorem PoorR.keep {w w' : World} {ao : Option Addr} {cap : Nat} {g : Option Nat} {P : List Nat} (h : PoorR w ao cap g P) (hk : ∀ b, g = some b → w'.heap[b]? = w.heap[b]?) : PoorR w' ao cap g P := by
  obtain ⟨h1, h2, h3⟩ := h
  refine ⟨h1, h2, ?_⟩
  rcases h3 with h3 | ⟨b, off, cur, hg, ha, hh, h4, h5⟩
  · exact .inl h3
  · exact .inr ⟨b, off, cur, hg, ha, (hk b hg).trans hh, h4, h5⟩
theorem PoorR.lt {w : World} {ao : Option Addr} {cap : Nat} {g : Option Nat} {P : List Nat} (h : PoorR w ao cap g P) : ∀ b, g = some b → b < w.heap.size := fun b hb => by
  rcases h.2.2 with ⟨_, h3, _⟩ | ⟨b', off, cur, hg, ha, hh, _⟩
  · rw [h3] at hb; cases hb
  · rw [hg] at hb; cases hb
    exact (Array.getElem?_eq_some_iff.1 hh).1
theorem PoorR.cell {w : World} {b off : Nat} {cap : Nat} {g : Option Nat} {P : List Nat} (h : PoorR w (some ⟨b, off, none⟩) cap g P) (i : Nat) (hi : i < P.length) : w.cell? ⟨b, off + i, none⟩ = some (.int .i64 (P[i] : Nat)) := by
  rcases h.2.2 with ⟨h3, _⟩ | ⟨b', off', cur, hg, ha, hh, _, h5⟩
  · cases h3
  · cases ha
    rw [cell_of_row w b _ cur _ (0, 0) hh, h5 i hi]
    simp [i64v, hi]
theorem PoorR.pos {w : World} {ao : Option Addr} {cap : Nat} {g : Option Nat} {P : List Nat} (h : PoorR w ao cap g P) (hp : 0 < P.length) : ∃ b off, g = some b ∧ ao = some ⟨b, off, none⟩ ∧ b < w.heap.size := by
  rcases h.2.2 with ⟨_, _, h3⟩ | ⟨b, off, cur, hg, ha, hh, _, _⟩
  · have := h.1; omega
  · exact ⟨b, off, hg, ha, (Array.getElem?_eq_some_iff.1 hh).1⟩
/-- what is behind the first one -/
theorem PoorR.tail {w : World} {b off cap : Nat} {g : Option Nat} {x : Nat} {P : List Nat} (h : PoorR w (some ⟨b, off, none⟩) cap g (x :: P)) : PoorR w (some (if cap = 1 then ⟨b, off, none⟩ else ⟨b, off + 1, none⟩)) (cap - 1) g P := by
  obtain ⟨h1, h2, h3⟩ := h
  rw [List.length_cons] at h1
  refine ⟨by omega, by omega, ?_⟩
  rcases h3 with ⟨h3, _⟩ | ⟨b', off', cur, hg, ha, hh, h4, h5⟩
  · cases h3
  · cases ha
    by_cases hc : cap = 1
    · rw [if_pos hc]
      exact .inr ⟨b, off, cur, hg, rfl, hh, by omega, fun i hi => by omega⟩
    · rw [if_neg hc]
      refine .inr ⟨b, off + 1, cur, hg, rfl, hh, by omega, fun i hi => ?_⟩
      have := h5 (i + 1) (by simpa using hi)
      rw [show off + 1 + i = off + (i + 1) by omega, this]
      simp [i64v]
def InsRet (P Q : List Nat) (g : Option Nat) (w : World) (e : Ending) (w' : World) : Prop :=
  ∃ ao' cap' g', e = .returned (.slice ao' Q.length cap') ∧ PoorR w' ao' cap' g' Q ∧ (g' = g ∨ ∃ q, g' = some q ∧ w.heap.size ≤ q) ∧ Only (fun q => g = some q) w w'
theorem poor_insert (P : List Nat) (k j : Nat) (ao : Option Addr) (cap : Nat) (g : Option Nat) (vb : Nat) (w : World) (hl : P.length ≤ 100000) (hk : k ≤ P.length) (hP : PoorR w ao cap g P) (hv : w.heap[vb]? = some (.cells #[.int .i64 (j : Nat)] 3 (0, 0))) (hvg : g ≠ some vb) :
    Calls Tryz.prog 140 #[.slice ao P.length cap, .int .i64 (k : Nat), .slice (some ⟨vb, 0, none⟩) 1 1] w (InsRet P (P.take k ++ [j] ++ P.drop k) g w) := by
  have hQl : (P.take k ++ [j] ++ P.drop k).length = P.length + 1 := by simp; omega
  have hvs : ∀ q v, ([.int .i64 (j : Nat)] : List Value)[q]? = some v → w.cell? ⟨vb, 0 + q, none⟩ = some v := fun q v h => by
    rw [Nat.zero_add, cell_of_row w vb q _ _ (0, 0) hv]
    simpa using h
  have h1v : ∀ v ∈ ([.int .i64 (j : Nat)] : List Value), v.oneCell' = true := by simp [Value.oneCell']
  have hcl : (i64v P).length = P.length := by simp [i64v]
  obtain ⟨hc1, hc2, hc3⟩ := hP
  have hP : PoorR w ao cap g P := ⟨hc1, hc2, hc3⟩
  have hcap63 : cap ≤ 9223372036854775807 := by simp only [maxLen] at hc2; omega
  by_cases hroom : P.length + 1 ≤ cap
  · rcases hc3 with ⟨_, _, h0⟩ | ⟨b, off, cur, rfl, rfl, hh, hcs, hcur⟩
    · omega
    have hsp : ∀ q, q < P.length + 1 → (w.cell? ⟨b, off + q, none⟩).isSome = true := fun q hq => by
      rw [cell_of_row w b _ cur _ (0, 0) hh, Array.getElem?_eq_getElem (by omega)]; rfl
    have hfz : ∀ q, w.frozen? ⟨b, q, none⟩ = false := fun q => by simp [World.frozen?, hh]
    have hcsr : ∀ q v, (i64v P)[q]? = some v → w.cell? ⟨b, off + q, none⟩ = some v := fun q v h => by
      have hq : q < P.length := by rw [← hcl]; exact (List.getElem?_eq_some_iff.1 h).1
      rw [cell_of_row w b _ cur _ (0, 0) hh, hcur q hq, h]
    by_cases hend : k = P.length
    · subst hend
      refine (Any2.slices_Insert_int_end_room insInt b off P.length cap vb 0 1 1 [.int .i64 (j : Nat)] w (by omega) hroom hcap63 rfl (fun q hq => by rw [Nat.add_assoc]; exact hsp _ (by omega)) (fun q _ => hfz _) hvs h1v).mono ?_
      rintro e w' ⟨rfl, rfl⟩
      refine ⟨_, cap, some b, by rw [hQl], ⟨by rw [hQl]; exact hroom, hc2, .inr ⟨b, off, setsAt cur (off + P.length) [.int .i64 (j : Nat)], rfl, rfl, heap_setCells_in b _ (0, 0) _ _ w cur hh, by rw [setsAt_size]; exact hcs, fun i hi => ?_⟩⟩, .inl rfl, (only_setCells b _ _ w).mono (fun q _ e => by rw [e])⟩
      rw [hQl] at hi
      rw [setsAt_get _ _ _ _ (by simp; omega)]
      simp only [List.length_cons, List.length_nil, i64v, List.take_length, List.drop_length, List.append_nil, List.map_append, List.map_cons, List.map_nil]
      by_cases hlt : i < P.length
      · rw [if_neg (by omega), List.getElem?_append_left (by simpa using hlt), hcur i hlt]; rfl
      · rw [if_pos (by omega), List.getElem?_append_right (by simp; omega)]
        simp; congr 1; omega
    · have hkl : k < P.length := by omega
      have hbb : vb ≠ b := fun e => hvg (by rw [e])
      refine (Any2.slices_Insert_int_shift insInt b off P.length cap k vb 0 1 1 (i64v P) [.int .i64 (j : Nat)] w hkl (by omega) hroom hcap63 hbb hcl rfl hcsr hsp (fun q _ => hfz _) hvs (i64v_one P) h1v
        3 3 1 cur.size (by simp [World.shape?, hv]) (by simp [World.shape?, hh]) (by omega) (by simp [World.frozen?, hv]) (by simp [World.frozen?, hv])).mono ?_
      rintro e w' ⟨rfl, rfl⟩
      have hh1 : (w.drew.setCells b (off + (k + 1)) ((i64v P).drop k)).heap[b]? = some (.cells (setsAt cur (off + (k + 1)) ((i64v P).drop k)) 3 (0, 0)) := heap_setCells_in b _ (0, 0) _ _ w.drew cur hh
      have hdl : ((i64v P).drop k).length = P.length - k := by rw [List.length_drop, hcl]
      refine ⟨_, cap, some b, by rw [hQl], ⟨by rw [hQl]; exact hroom, hc2, .inr ⟨b, off, _, rfl, rfl, heap_setCells_in b _ (0, 0) _ _ _ _ hh1, by rw [setsAt_size, setsAt_size]; exact hcs, fun i hi => ?_⟩⟩, .inl rfl, ?_⟩
      · rw [hQl] at hi
        rw [setsAt_get _ _ _ _ (by rw [setsAt_size]; simp; omega), setsAt_get _ _ _ _ (by rw [hdl]; omega), hdl]
        simp only [List.length_cons, List.length_nil, i64v, List.map_append, List.map_cons, List.map_nil, List.map_take, List.map_drop]
        have htl : ((P.map (fun x => Value.int .i64 (x : Nat))).take k).length = k := by rw [List.length_take, List.length_map]; omega
        by_cases h1 : i < k
        · rw [if_neg (by omega), if_neg (by omega), hcur i (by omega), List.append_assoc, List.getElem?_append_left (by rw [htl]; exact h1), List.getElem?_take, if_pos h1]; rfl
        · by_cases h2 : i = k
          · subst h2
            rw [if_pos (by omega), List.append_assoc, List.getElem?_append_right (by rw [htl]; omega), htl]
            simp
          · rw [if_neg (by omega), if_pos (by omega), List.getElem?_append_right (by simp [htl]; omega)]
            rw [List.length_append, htl, List.length_singleton, List.getElem?_drop, List.getElem?_drop]
            congr 1
            omega
      · exact (((Only.refl (fun q => some b = some q) w).drew).trans (only_setCells b _ _ _) (fun q _ e => by rw [e])).trans (only_setCells b _ _ _) (fun q _ e => by rw [e])
  · have hroom' : cap < P.length + 1 := by omega
    have h63 : P.length + 1 ≤ maxLen := by simp [maxLen]; omega
    have hge := grownCap_ge w (P.length + 1) cap 3
    have hle := grownCap_le_maxLen w (P.length + 1) cap 3 h63
    have hz : (Value.int .i64 0).cells.size = 1 := rfl
    by_cases hend : k = P.length
    · subst hend
      refine (Any2.slices_Insert_int_end_grow insInt ao P.length cap vb 0 1 1 (i64v P) [.int .i64 (j : Nat)] w (by omega) hc1 hroom' (by omega) hcl rfl (fun e => by
          rcases hc3 with ⟨_, _, h0⟩ | ⟨b, off, cur, _, ha, _⟩
          · omega
          · rw [e] at ha; cases ha) (fun a ha q v h => by
          subst ha
          rcases hc3 with ⟨h0, _⟩ | ⟨b, off, cur, _, ha, hh, _, hcur⟩
          · cases h0
          · cases ha
            have hq : q < P.length := by rw [← hcl]; exact (List.getElem?_eq_some_iff.1 h).1
            rw [Addr.add_lit, cell_of_row w b _ cur _ (0, 0) hh, hcur q hq, h]) hvs h1v).mono ?_
      rintro e w' ⟨rfl, rfl⟩
      have ht3 : insInt_ren.t 3 = 3 := rfl
      rw [ht3]
      refine ⟨_, _, some w.heap.size, by rw [hQl], ⟨by rw [hQl]; exact hge, hle, .inr ⟨w.heap.size, 0, _, rfl, rfl, heap_alloc_new w.drew _, ?_, fun i hi => ?_⟩⟩, .inr ⟨_, rfl, Nat.le_refl _⟩, ((Only.refl _ w).drew).alloc _⟩
      · simp only [Array.size_append, List.size_toArray, size_zeroCells, hz, List.length_append, hcl, List.length_cons, List.length_nil]
        omega
      · rw [hQl] at hi
        rw [Nat.zero_add, Array.getElem?_append_left (by simp [hcl]; omega)]
        simp [i64v]
    · have hkl : k < P.length := by omega
      obtain ⟨b, off, rfl, rfl, _⟩ := hP.pos (by omega)
      refine (Any2.slices_Insert_int_grow insInt b off P.length cap k vb 0 1 1 (i64v P) [.int .i64 (j : Nat)] w hkl (by omega) hc1 hroom' (by omega) hcl rfl (fun q v h => by
          have hq : q < P.length := by rw [← hcl]; exact (List.getElem?_eq_some_iff.1 h).1
          rw [hP.cell q hq, ← h]; simp [i64v, hq]) hvs (i64v_one P) h1v).mono ?_
      rintro e w' ⟨rfl, rfl⟩
      have ht3 : insInt_ren.t 3 = 3 := rfl
      rw [ht3]
      have htl : ((i64v P).take k).length = k := by rw [List.length_take, hcl]; omega
      have hdl : ((i64v P).drop k).length = P.length - k := by rw [List.length_drop, hcl]
      obtain ⟨cur0, hc0⟩ : ∃ c, ((i64v P).take k).toArray ++ Builtin.zeroCells (Value.int .i64 0).cells (P.length + 1 - k) ++ Builtin.zeroCells (Value.int .i64 0).cells (grownCap w (P.length + 1) cap 3 - (P.length + 1)) = c := ⟨_, rfl⟩
      have hsz : cur0.size = grownCap w (P.length + 1) cap 3 := by
        rw [← hc0]
        simp only [Array.size_append, List.size_toArray, size_zeroCells, hz, htl]
        omega
      have hget0 : ∀ i, i < k → cur0[i]? = (i64v P)[i]? := fun i hi => by
        rw [← hc0, Array.append_assoc, Array.getElem?_append_left (by simp [htl]; omega)]
        simp [List.getElem?_take, hi]
      rw [hc0]
      have hh0 : ((w.alloc (.cells cur0 3)).drew).heap[w.heap.size]? = some (.cells cur0 3 (0, 0)) := heap_alloc_new w _
      have hh1 := heap_setCells_in w.heap.size 3 (0, 0) [.int .i64 (j : Nat)] k _ cur0 hh0
      have hh2 : (((w.alloc (.cells cur0 3)).drew.setCells w.heap.size k [.int .i64 (j : Nat)]).drew).heap[w.heap.size]? = some (.cells (setsAt cur0 k [.int .i64 (j : Nat)]) 3 (0, 0)) := hh1
      have hh3 := heap_setCells_in w.heap.size 3 (0, 0) ((i64v P).drop k) (k + 1) _ _ hh2
      refine ⟨_, _, some w.heap.size, by rw [hQl], ⟨by rw [hQl]; exact hge, hle, .inr ⟨w.heap.size, 0, _, rfl, rfl, hh3, by rw [setsAt_size, setsAt_size, hsz]; omega, fun i hi => ?_⟩⟩, .inr ⟨_, rfl, Nat.le_refl _⟩, ?_⟩
      · rw [hQl] at hi
        rw [Nat.zero_add, setsAt_get _ _ _ _ (by rw [setsAt_size, hsz, hdl]; omega), setsAt_get _ _ _ _ (by rw [hsz]; simp; omega), hdl]
        have hi64 : i64v (P.take k ++ [j] ++ P.drop k) = (i64v P).take k ++ [.int .i64 (j : Nat)] ++ (i64v P).drop k := by simp [i64v, List.map_take, List.map_drop]
        rw [hi64]
        simp only [List.length_cons, List.length_nil]
        by_cases h1 : i < k
        · rw [if_neg (by omega), if_neg (by omega), hget0 i h1, List.append_assoc, List.getElem?_append_left (by rw [htl]; exact h1), List.getElem?_take, if_pos h1]
        · by_cases h2 : i = k
          · subst h2
            rw [if_neg (by omega), if_pos (by omega), List.append_assoc, List.getElem?_append_right (by rw [htl]; omega), htl]
            simp
          · rw [if_pos (by omega), List.getElem?_append_right (by simp [htl]; omega)]
            rw [List.length_append, htl, List.length_singleton]
      · have h1 : Only (fun q => some b = some q) w (w.alloc (.cells cur0 3)).drew := ((Only.refl _ w).alloc _).drew
        have h2 := h1.trans (only_setCells w.heap.size [.int .i64 (j : Nat)] k _) (fun q hq e => by omega)
        exact (h2.drew).trans (only_setCells w.heap.size ((i64v P).drop k) (k + 1) _) (fun q hq e => by omega)
theorem count_tw {j : Nat} : ∀ {l : List Nat}, l.Pairwise (· < ·) → ((l.map (fun x : Nat => (x : Int))).countP (fun x => decide (x < (j : Int)))) = (l.takeWhile (fun x => decide (x < j))).length
  | [], _ => rfl
  | x :: l, h => by
    obtain ⟨h1, h2⟩ := List.pairwise_cons.1 h
    by_cases hx : x < j
    · rw [List.map_cons, List.countP_cons_of_pos (by simpa using hx), List.takeWhile_cons_of_pos (by simpa using hx), List.length_cons, count_tw h2]
    · rw [List.map_cons, List.countP_cons_of_neg (by simpa using hx), List.takeWhile_cons_of_neg (by simpa using hx)]
      rw [List.length_nil, List.countP_eq_zero]
      intro y hy
      obtain ⟨z, hz, rfl⟩ := List.mem_map.1 hy
      have := h1 z hz
      simp; omega
/-- where one belongs among those that lack -/
theorem poor_search (P : List Nat) (j : Nat) (ao : Option Addr) (cap : Nat) (g : Option Nat) (w : World) (hl : P.length ≤ 100000) (hP : PoorR w ao cap g P) (hr : P.Pairwise (· < ·)) :
    Calls Tryz.prog 139 #[.slice ao P.length cap, .int .i64 (j : Nat)] w fun e w' => (∃ bv, e = .returned (.tuple #[.int .i64 ((P.takeWhile (fun x => decide (x < j))).length : Nat), .bool bv])) ∧ ∃ q, w' = w.drewN q := by
  by_cases h0 : P.length = 0
  · obtain rfl := List.eq_nil_of_length_eq_zero h0
    exact (Any.slices_BinarySearch_int_empty bsInt ao cap (j : Nat) w).mono fun e w' ⟨h1, h2⟩ => ⟨⟨false, h1⟩, 0, by rw [h2]; rfl⟩
  · obtain ⟨b, off, rfl, rfl, _⟩ := hP.pos (by omega)
    have hz : (P.map (fun x : Nat => (x : Int))).length = P.length := by simp
    have h := Any.slices_BinarySearch_int bsInt b off P.length cap (P.map (fun x : Nat => (x : Int))) (j : Nat) w (by rw [hz]; exact Nat.le_refl _) (by omega) (fun q hq => by
      rw [hz] at hq
      rw [hP.cell q hq, List.getD_eq_getElem?_getD, List.getElem?_map, List.getElem?_eq_getElem hq]
      rfl) (by
      rw [List.take_of_length_le (by rw [hz]; exact Nat.le_refl _), List.pairwise_map]
      exact hr.imp (fun {a b} hab => by omega))
    refine h.mono ?_
    rintro e w' ⟨rfl, q, rfl⟩
    rw [List.take_of_length_le (by rw [hz]; exact Nat.le_refl _), count_tw hr]
    exact ⟨⟨_, rfl⟩, q, rfl⟩
theorem insAt_take {j : Nat} {l : List Nat} : insAt j l = l.take (l.takeWhile (fun x => decide (x < j))).length ++ [j] ++ l.drop (l.takeWhile (fun x => decide (x < j))).length := by
  have h : l.takeWhile (fun x => decide (x < j)) ++ l.dropWhile (fun x => decide (x < j)) = l := List.takeWhile_append_dropWhile
  have key : ∀ (A B : List Nat), A ++ B = l → l.take A.length = A ∧ l.drop A.length = B := by rintro A B rfl; simp
  obtain ⟨h1, h2⟩ := key _ _ h
  unfold insAt
  rw [h1, h2]
end Go.Proofs.YtcklfffeimnfeaaGreat

namespace Go.Proofs.YtcklfffeimnfeaaGreat
open Go.RowKit

theorem badA_zero (l : List ArcD) (h : 0 < l.length) : badA l 0 ↔ l[0].2 = 0 :=
  ⟨fun ⟨_, h⟩ => by rcases h with h | ⟨h, _⟩; exact h; omega, fun e => ⟨h, .inl e⟩⟩
theorem badA_succ (l : List ArcD) (j : Nat) (h : j + 1 < l.length) : badA l (j + 1) ↔ (l[j + 1].2 = 0 ∨ l[j + 1].1 ≤ (l[j]'(by omega)).1) :=
  ⟨fun ⟨_, h⟩ => by
    rcases h with h | ⟨_, h⟩
    · exact .inl h
    · exact .inr h, fun e => ⟨h, by
    rcases e with e | e
    · exact .inl e
    · exact .inr ⟨by omega, e⟩⟩⟩
def amayI (l : List ArcD) (w : World) (i : Value) (wr : World) : Prop := ∃ k : Nat, k ≤ l.length ∧ i = .int .i64 (k : Nat) ∧ (∀ j, j < k → ¬ badA l j) ∧ Below w.heap.size w wr
theorem all_next {l : List ArcD} {k : Nat} (h : ∀ j, j < k → ¬ badA l j) (hk : ¬ badA l k) : ∀ j, j < k + 1 → ¬ badA l j := fun j hj hb => by
  by_cases e : j < k
  · exact h j e hb
  · obtain rfl : j = k := by omega
    exact hk hb
theorem rmay04_any (l : List ArcD) (ao : Option Addr) (cap : Nat) (fp : Nat → Prop) (w : World) (hl : l.length ≤ 100000) (hrd : RdS arcRep fp w ao l) :
    Calls Tryz.prog 147 #[.slice ao l.length cap] w (RetB (.bool (mayA l)) w) := by
  have HSum := Lib.hid (fun W (h : Below w.heap.size w W) => rsum_any l ao cap fp W (by omega) (hrd.ext h))
  have Hrd := Lib.hid hrd
  clear hrd
  go_enter Tryz.func147, Tryz.ntmps147
  go_wp2_with fail
  go_loopw [6] (fun i wr => amayI l w i wr) (fun i _ => l.length - (intOf i).toNat)
  case atStart => exact ⟨0, by omega, rfl, fun j h => by omega, Below.refl _ _⟩
  case round =>
    obtain ⟨k, hk, rfl, hall, hB⟩ := hrel
    obtain ⟨wo, rfl⟩ : ∃ wo : World, wo = wr := ⟨_, rfl⟩
    by_cases hlt : k < l.length
    · obtain ⟨bb, off, rfl, hbb, hc0', hc1', hok⟩ := Hrd.out.arc k hlt
      have hc0 := ((bcell hB).1 _ _ hbb).trans hc0'
      have hc1 := ((bcell hB).1 _ _ hbb).trans hc1'
      have hbs := hB.size
      have HB := Lib.hid hB
      have hir : (k : Int) < (l.length : Int) := by omega
      clear hc0' hc1' hB
      cases k with
      | zero =>
        have hbad := badA_zero l hlt
        simp only [Nat.zero_mul, Nat.add_zero] at hc0 hc1
        generalize l[0] = x at hc0 hc1 hok hbad
        obtain ⟨x0, x1⟩ := x
        simp only at hc0 hc1 hbad
        have hj0 : (0 : Int) < (l.length : Int) := hir
        have hj0' : 0 < l.length := by omega
        by_cases hz : x1 = 0
        · have d1 : decide ((x1 : Int) < 1) = true := decide_eq_true (by omega)
          have d1' : decide (x1 < 1) = true := decide_eq_true (by omega)
          have d2 : ((x1 : Int) == 0) = true := by rw [hz]; rfl
          have d2' : (x1 == 0) = true := by rw [hz]; rfl
          have hv := hbad.2 hz
          clear hz hbad
          have Hv := Lib.hid (mayA_bad hv)
          clear hall
          go_wp2_with fail
          go_quiet (fail)
          go_wp2_with fail
          go_ret
          exact ⟨by rw [Hv.out]; rfl, by first | exact HB.out.trans ((ext_drewN _ _).mono HB.out.size) | exact below_drewN (HB.out.alloc HB.out.size _) _⟩
        · have d1 : decide ((x1 : Int) < 1) = false := decide_eq_false (by omega)
          have d1' : decide (x1 < 1) = false := decide_eq_false (by omega)
          have d2 : ((x1 : Int) == 0) = false := beq_eq_false_iff_ne.2 (by omega)
          have d2' : (x1 == 0) = false := beq_eq_false_iff_ne.2 hz
          have hv := fun h => hz (hbad.1 h)
          clear hz hbad
          have Hg := Lib.hid (all_next hall hv)
          clear hall
          go_wp2_with fail
          go_quiet (fail)
          go_wp2_with fail
          go_roundw
          case rel => exact ⟨0 + 1, by omega, by go_num, Hg.out, by first | exact HB.out.trans ((ext_drewN _ _).mono HB.out.size) | exact below_drewN (HB.out.alloc HB.out.size _) _⟩
          case measure => simp [intOf]; omega
      | succ j =>
        obtain ⟨b2, o2, hab, hb2, hd0', _, _⟩ := Hrd.out.arc j (by omega)
        cases hab
        have hd0 := ((bcell HB.out).1 _ _ hbb).trans hd0'
        clear hd0'
        have hbad := badA_succ l j hlt
        generalize l[j + 1] = x at hc0 hc1 hok hbad
        generalize l[j]'(by omega) = y at hd0 hbad
        obtain ⟨x0, x1⟩ := x
        obtain ⟨y0, y1⟩ := y
        simp only at hc0 hc1 hd0 hbad
        have hd3 : decide ((0 : Int) < (j : Int) + 1) = true := decide_eq_true (by omega)
        have hj0 : (0 : Int) ≤ (j : Int) := by omega
        have hjl : (j : Int) < (l.length : Int) := by omega
        have hjw : IntKind.i64.wrap ((j : Int) + 1 - 1) = (j : Int) := by rw [Int.add_sub_cancel]; exact IntWalk.i64_in _ (by omega)
        by_cases hz : x1 = 0
        · have d1 : decide ((x1 : Int) < 1) = true := decide_eq_true (by omega)
          have d1' : decide (x1 < 1) = true := decide_eq_true (by omega)
          have d2 : ((x1 : Int) == 0) = true := by rw [hz]; rfl
          have d2' : (x1 == 0) = true := by rw [hz]; rfl
          have hv := hbad.2 (.inl hz)
          clear hz hbad hjw
          have Hv := Lib.hid (mayA_bad hv)
          clear hall
          go_wp2_with fail
          go_quiet (fail)
          go_wp2_with fail
          go_ret
          exact ⟨by rw [Hv.out]; rfl, by first | exact HB.out.trans ((ext_drewN _ _).mono HB.out.size) | exact below_drewN (HB.out.alloc HB.out.size _) _⟩
        have d1 : decide ((x1 : Int) < 1) = false := decide_eq_false (by omega)
        have d1' : decide (x1 < 1) = false := decide_eq_false (by omega)
        have d2 : ((x1 : Int) == 0) = false := beq_eq_false_iff_ne.2 (by omega)
        have d2' : (x1 == 0) = false := beq_eq_false_iff_ne.2 hz
        by_cases hxy : x0 ≤ y0
        · have e1 : decide ((x0 : Int) ≤ (y0 : Int)) = true := decide_eq_true (by omega)
          have e1' : decide (x0 ≤ y0) = true := decide_eq_true hxy
          have hv := hbad.2 (.inr hxy)
          clear hz hbad hxy
          have Hv := Lib.hid (mayA_bad hv)
          clear hall
          go_wp2_with fail
          go_quiet (fail)
          go_wp2_with fail
          go_ret
          exact ⟨by rw [Hv.out]; rfl, by first | exact HB.out.trans ((ext_drewN _ _).mono HB.out.size) | exact below_drewN (HB.out.alloc HB.out.size _) _⟩
        · have e1 : decide ((x0 : Int) ≤ (y0 : Int)) = false := decide_eq_false (by omega)
          have e1' : decide (x0 ≤ y0) = false := decide_eq_false hxy
          have hv : ¬ badA l (j + 1) := fun h => by rcases hbad.1 h with h | h <;> omega
          clear hz hbad hxy
          have Hg := Lib.hid (all_next hall hv)
          clear hall
          go_wp2_with fail
          go_quiet (fail)
          go_wp2_with fail
          go_roundw
          case rel => exact ⟨j + 1 + 1, by omega, by go_num, Hg.out, by first | exact HB.out.trans ((ext_drewN _ _).mono HB.out.size) | exact below_drewN (HB.out.alloc HB.out.size _) _⟩
          case measure => simp [intOf]; omega
    · obtain rfl : k = l.length := by omega
      have Hv := Lib.hid (mayA_good (l := l) (fun i hi => hall i hi))
      have HB := Lib.hid hB
      clear hall hB
      go_wp2_with (go_at_call 56; refine (HSum.out _ HB.out).mono ?_; rintro e w2 ⟨rfl, hB2⟩; have HB2 := Lib.hid hB2; clear hB2)
      go_ret
      refine ⟨?_, HB.out.trans (HB2.out.mono HB.out.size)⟩
      rw [Hv.out]
      refine congrArg Ending.returned (congrArg Value.bool ?_)
      rw [Bool.eq_iff_iff]; simp only [decide_eq_true_eq]; omega
theorem gmay_any (l : List ArcD) (ao : Option Addr) (cap : Nat) (fp : Nat → Prop) (w : World) (hl : l.length ≤ 100000) (hrd : RdS arcRep fp w ao l) :
    Calls Tryz.prog 44 #[.slice ao l.length cap] w (RetB (.bool (mayA l)) w) := by
  have HSum := Lib.hid (fun W (h : Below w.heap.size w W) => gsum_any l ao cap fp W (by omega) (hrd.ext h))
  have Hrd := Lib.hid hrd
  clear hrd
  go_enter Tryz.func44, Tryz.ntmps44
  go_wp2_with fail
  go_loopw [7] (fun i wr => amayI l w i wr) (fun i _ => l.length - (intOf i).toNat)
  case atStart => exact ⟨0, by omega, rfl, fun j h => by omega, Below.refl _ _⟩
  case round =>
    obtain ⟨k, hk, rfl, hall, hB⟩ := hrel
    obtain ⟨wo, rfl⟩ : ∃ wo : World, wo = wr := ⟨_, rfl⟩
    by_cases hlt : k < l.length
    · obtain ⟨bb, off, rfl, hbb, hc0', hc1', hok⟩ := Hrd.out.arc k hlt
      have hc0 := ((bcell hB).1 _ _ hbb).trans hc0'
      have hc1 := ((bcell hB).1 _ _ hbb).trans hc1'
      have hbs := hB.size
      have HB := Lib.hid hB
      have hir : (k : Int) < (l.length : Int) := by omega
      clear hc0' hc1' hB
      cases k with
      | zero =>
        have hbad := badA_zero l hlt
        simp only [Nat.zero_mul, Nat.add_zero] at hc0 hc1
        generalize l[0] = x at hc0 hc1 hok hbad
        obtain ⟨x0, x1⟩ := x
        simp only at hc0 hc1 hbad
        have hj0 : (0 : Int) < (l.length : Int) := hir
        have hj0' : 0 < l.length := by omega
        by_cases hz : x1 = 0
        · have d1 : decide ((x1 : Int) < 1) = true := decide_eq_true (by omega)
          have d1' : decide (x1 < 1) = true := decide_eq_true (by omega)
          have d2 : ((x1 : Int) == 0) = true := by rw [hz]; rfl
          have d2' : (x1 == 0) = true := by rw [hz]; rfl
          have hv := hbad.2 hz
          clear hz hbad
          have Hv := Lib.hid (mayA_bad hv)
          clear hall
          go_wp2_with fail
          go_quiet (fail)
          go_wp2_with fail
          go_ret
          exact ⟨by rw [Hv.out]; rfl, by first | exact HB.out.trans ((ext_drewN _ _).mono HB.out.size) | exact below_drewN (HB.out.alloc HB.out.size _) _⟩
        · have d1 : decide ((x1 : Int) < 1) = false := decide_eq_false (by omega)
          have d1' : decide (x1 < 1) = false := decide_eq_false (by omega)
          have d2 : ((x1 : Int) == 0) = false := beq_eq_false_iff_ne.2 (by omega)
          have d2' : (x1 == 0) = false := beq_eq_false_iff_ne.2 hz
          have hv := fun h => hz (hbad.1 h)
          clear hz hbad
          have Hg := Lib.hid (all_next hall hv)
          clear hall
          go_wp2_with fail
          go_quiet (fail)
          go_wp2_with fail
          go_roundw
          case rel => exact ⟨0 + 1, by omega, by go_num, Hg.out, by first | exact HB.out.trans ((ext_drewN _ _).mono HB.out.size) | exact below_drewN (HB.out.alloc HB.out.size _) _⟩
          case measure => simp [intOf]; omega
      | succ j =>
        obtain ⟨b2, o2, hab, hb2, hd0', _, _⟩ := Hrd.out.arc j (by omega)
        cases hab
        have hd0 := ((bcell HB.out).1 _ _ hbb).trans hd0'
        clear hd0'
        have hbad := badA_succ l j hlt
        generalize l[j + 1] = x at hc0 hc1 hok hbad
        generalize l[j]'(by omega) = y at hd0 hbad
        obtain ⟨x0, x1⟩ := x
        obtain ⟨y0, y1⟩ := y
        simp only at hc0 hc1 hd0 hbad
        have hd3 : decide ((0 : Int) < (j : Int) + 1) = true := decide_eq_true (by omega)
        have hj0 : (0 : Int) ≤ (j : Int) := by omega
        have hjl : (j : Int) < (l.length : Int) := by omega
        have hjw : IntKind.i64.wrap ((j : Int) + 1 - 1) = (j : Int) := by rw [Int.add_sub_cancel]; exact IntWalk.i64_in _ (by omega)
        by_cases hz : x1 = 0
        · have d1 : decide ((x1 : Int) < 1) = true := decide_eq_true (by omega)
          have d1' : decide (x1 < 1) = true := decide_eq_true (by omega)
          have d2 : ((x1 : Int) == 0) = true := by rw [hz]; rfl
          have d2' : (x1 == 0) = true := by rw [hz]; rfl
          have hv := hbad.2 (.inl hz)
          clear hz hbad hjw
          have Hv := Lib.hid (mayA_bad hv)
          clear hall
          go_wp2_with fail
          go_quiet (fail)
          go_wp2_with fail
          go_ret
          exact ⟨by rw [Hv.out]; rfl, by first | exact HB.out.trans ((ext_drewN _ _).mono HB.out.size) | exact below_drewN (HB.out.alloc HB.out.size _) _⟩
        have d1 : decide ((x1 : Int) < 1) = false := decide_eq_false (by omega)
        have d1' : decide (x1 < 1) = false := decide_eq_false (by omega)
        have d2 : ((x1 : Int) == 0) = false := beq_eq_false_iff_ne.2 (by omega)
        have d2' : (x1 == 0) = false := beq_eq_false_iff_ne.2 hz
        by_cases hxy : x0 ≤ y0
        · have e1 : decide ((x0 : Int) ≤ (y0 : Int)) = true := decide_eq_true (by omega)
          have e1' : decide (x0 ≤ y0) = true := decide_eq_true hxy
          have hv := hbad.2 (.inr hxy)
          clear hz hbad hxy
          have Hv := Lib.hid (mayA_bad hv)
          clear hall
          go_wp2_with fail
          go_quiet (fail)
          go_wp2_with fail
          go_ret
          exact ⟨by rw [Hv.out]; rfl, by first | exact HB.out.trans ((ext_drewN _ _).mono HB.out.size) | exact below_drewN (HB.out.alloc HB.out.size _) _⟩
        · have e1 : decide ((x0 : Int) ≤ (y0 : Int)) = false := decide_eq_false (by omega)
          have e1' : decide (x0 ≤ y0) = false := decide_eq_false hxy
          have hv : ¬ badA l (j + 1) := fun h => by rcases hbad.1 h with h | h <;> omega
          clear hz hbad hxy
          have Hg := Lib.hid (all_next hall hv)
          clear hall
          go_wp2_with fail
          go_quiet (fail)
          go_wp2_with fail
          go_roundw
          case rel => exact ⟨j + 1 + 1, by omega, by go_num, Hg.out, by first | exact HB.out.trans ((ext_drewN _ _).mono HB.out.size) | exact below_drewN (HB.out.alloc HB.out.size _) _⟩
          case measure => simp [intOf]; omega
    · obtain rfl : k = l.length := by omega
      have Hv := Lib.hid (mayA_good (l := l) (fun i hi => hall i hi))
      have HB := Lib.hid hB
      clear hall hB
      go_wp2_with (go_at_call 84; refine (HSum.out _ HB.out).mono ?_; rintro e w2 ⟨rfl, hB2⟩; have HB2 := Lib.hid hB2; clear hB2)
      go_ret
      refine ⟨?_, HB.out.trans (HB2.out.mono HB.out.size)⟩
      rw [Hv.out]
      refine congrArg Ending.returned (congrArg Value.bool ?_)
      rw [Bool.eq_iff_iff]; simp only [decide_eq_true_eq]; omega
end Go.Proofs.YtcklfffeimnfeaaGreat

namespace Go.Proofs.YtcklfffeimnfeaaGreat
open Go.RowKit

def cellRep : Rep CellD := Rep.prod Rep.u64 Rep.u32
def okC (x : CellD) : Prop := x.1 < 18446744073709551616 ∧ x.2 < 4294967296
theorem RdS.cel {fp : Nat → Prop} {w : World} {ao : Option Addr} {l : List CellD} (h : RdS cellRep fp w ao l) (k : Nat) (hk : k < l.length) :
    ∃ b off, ao = some ⟨b, off, none⟩ ∧ b < w.heap.size ∧ w.cell? ⟨b, off + k * 2, none⟩ = some (.int .u64 (l[k].1 : Nat)) ∧ w.cell? ⟨b, off + k * 2 + 1, none⟩ = some (.int .u32 (l[k].2 : Nat)) ∧ okC l[k] := by
  obtain ⟨b, off, cs, rfl, _, hb, ⟨c, d, rfl, ⟨rfl, h1⟩, ⟨rfl, h2⟩⟩, hc⟩ := h.at k hk
  exact ⟨b, off, rfl, hb, hc 0 (by decide), hc 1 (by decide), h1, h2⟩
theorem totalM_le {l : List ArcD} (hl : l.length ≤ 100000) : totalM l ≤ 2147483647 * 100000 := by
  unfold totalM
  split
  · rename_i h
    exact Nat.mul_le_mul (of_decide_eq_true h).2.2 hl
  · omega
theorem total_any (l : List ArcD) (ao : Option Addr) (cap : Nat) (fp : Nat → Prop) (w : World) (hl : l.length ≤ 100000) (hrd : RdS arcRep fp w ao l) :
    Calls Tryz.prog 53 #[.slice ao l.length cap] w (RetB (.int .u64 (totalM l : Nat)) w) := by
  have HM := Lib.hid (fun W (h : Below w.heap.size w W) => gmay_any l ao cap fp W hl (hrd.ext h))
  have HS := Lib.hid (fun W (h : Below w.heap.size w W) => gsum_any l ao cap fp W (by omega) (hrd.ext h))
  have hle := totalM_le hl
  unfold totalM at hle ⊢
  clear hrd
  cases hm : mayA l with
  | false =>
    rw [hm] at HM
    simp only [Bool.false_eq_true, if_false]
    clear hle hm
    go_enter Tryz.func53, Tryz.ntmps53
    go_wp2_with (go_at_call 44; (with_reducible refine (HM.out _ (Below.refl _ _)).mono ?_); rintro e w1 ⟨rfl, hB⟩; have B1 := Lib.hid hB; clear hB)
    go_ret
    exact ⟨rfl, B1.out⟩
  | true =>
    rw [hm] at HM hle
    simp only [if_true] at hle ⊢
    have hmul : IntKind.u64.wrap ((sumA l : Int) * (l.length : Int)) = ((sumA l * l.length : Nat) : Int) := by
      rw [show (sumA l : Int) * (l.length : Int) = ((sumA l * l.length : Nat) : Int) from by simp]
      exact IntWalk.u64_in _ (by omega)
    have Hmul := Lib.hid hmul
    clear hle hm hmul
    generalize sumA l = s at *
    go_enter Tryz.func53, Tryz.ntmps53
    go_wp2_with (first
      | (go_at_call 44; (with_reducible refine (HM.out _ (Below.refl _ _)).mono ?_); rintro e w1 ⟨rfl, hB⟩; have B1 := Lib.hid hB; clear hB)
      | (go_at_call 84; (with_reducible refine (HS.out _ B1.out).mono ?_); rintro e w2 ⟨rfl, hB⟩; have B2 := Lib.hid (B1.out.trans (hB.mono B1.out.size)); clear hB))
    go_ret
    refine ⟨?_, B2.out⟩
    have h := Hmul.out
    refine congrArg (fun n => Ending.returned (Value.int .u64 n)) ?_
    simpa [IntKind.wrap, IntKind.bits, IntKind.signed] using h
end Go.Proofs.YtcklfffeimnfeaaGreat

namespace Go.Proofs.YtcklfffeimnfeaaGreat
open Go.RowKit

abbrev e64 : Nat → Value := fun x => Value.int .u64 (x : Nat)
def u64v (L : List Nat) : List Value := L.map e64
def ok64 (L : List Nat) : Prop := ∀ x ∈ L, x < 18446744073709551616
def FirstRet (n : Nat) (w : World) (e : Ending) (w' : World) : Prop := ∃ (k : Nat) (f : Bool), e = .returned (.tuple #[.int .i64 (k : Nat), .bool f]) ∧ (f = true → k < n) ∧ Below w.heap.size w w'
def firstI (n : Nat) (w : World) (i : Value) (wr : World) : Prop := ∃ k : Nat, k ≤ n ∧ i = .int .i64 (k : Nat) ∧ Below w.heap.size w wr

end Go.Proofs.YtcklfffeimnfeaaGreat
