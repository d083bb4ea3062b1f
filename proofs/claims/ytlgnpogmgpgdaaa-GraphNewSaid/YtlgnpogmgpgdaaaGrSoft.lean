/- Rows that are written over: where their headers and arcs lie; the law's few. -/
import Derived.Test.YtlgnpogmgpgdaaaGraphNew
import Derived.Test.YtlgnpogmgpgdaaaGrAgainW
namespace Go.Proofs.Ytlgnpogmgpgdaaa
set_option linter.unusedSimpArgs false
set_option linter.unusedVariables false
set_option maxRecDepth 100000
open Go.RowKit

def fewM (l : List RowD) : Bool := decide (l.length ≤ 50 ∧ ∀ r ∈ l, r.2.length ≤ 50)
theorem fewM_yes {l : List RowD} (h : fewM l = true) : l.length ≤ 50 ∧ ∀ r ∈ l, r.2.length ≤ 50 := of_decide_eq_true h
def fewI (l : List RowD) (w : World) (i : Value) (wr : World) : Prop := ∃ k : Nat, k ≤ l.length ∧ i = .int .i64 (k : Nat) ∧ (∀ j (h : j < l.length), j < k → l[j].2.length ≤ 50) ∧ Below w.heap.size w wr
set_option maxRecDepth 100000 in
set_option maxHeartbeats 3200000 in
theorem few15_any (l : List RowD) (ao : Option Addr) (cap : Nat) (fp : Nat → Prop) (w : World) (hcap : l.length ≤ cap) (hcm : cap ≤ maxLen) (hrd : RdS rowRep fp w ao l) :
    Calls Try.prog 39 #[.slice ao l.length cap] w (RetB (.bool (fewM l)) w) := by
  have Hrd := Lib.hid hrd
  clear hrd
  by_cases h1 : 50 < l.length
  · have d1 : decide (50 < l.length) = true := decide_eq_true h1
    have d1' : decide ((50 : Int) < (l.length : Int)) = true := decide_eq_true (by omega)
    have hv : fewM l = false := decide_eq_false (fun h => by omega)
    rw [hv]
    clear h1 hv
    go_enter Try.func39, Try.ntmps39
    go_wp2_with fail
    go_ret
    exact ⟨rfl, Below.refl _ _⟩
  have d1 : decide (50 < l.length) = false := decide_eq_false h1
  have d1' : decide ((50 : Int) < (l.length : Int)) = false := decide_eq_false (by omega)
  go_enter Try.func39, Try.ntmps39
  go_wp2_with fail
  go_loopw [3] (fun i wr => fewI l w i wr) (fun i _ => l.length - (intOf i).toNat)
  case atStart => exact ⟨0, by omega, rfl, fun j h hj => by omega, Below.refl _ _⟩
  case round =>
    obtain ⟨k, hk, rfl, hn, hB⟩ := hrel
    rename World => wo
    by_cases hlt : k < l.length
    · obtain ⟨bb, off, ra, rc, rfl, hbb, _, hc1', _, _, _, _⟩ := Hrd.out.row k hlt
      have hc1 := ((bcell hB).1 _ _ hbb).trans hc1'
      have hir : (k : Int) < (l.length : Int) := by omega
      have HB := Lib.hid hB
      have HN := Lib.hid hn
      have HK : Hid (∀ n, l[k].2.length = n → (n ≤ 50 → ∀ j (h : j < l.length), j < k + 1 → l[j].2.length ≤ 50) ∧ (50 < n → fewM l = false)) := fun n e => ⟨fun h j hj hjk => by
        by_cases e2 : j < k
        · exact hn j hj e2
        · obtain rfl : j = k := by omega
          omega, fun h => decide_eq_false (fun hh => by have := hh.2 l[k] (List.getElem_mem hlt); omega)⟩
      obtain ⟨n, hnn⟩ : ∃ n, l[k].2.length = n := ⟨_, rfl⟩
      have HK2 := Lib.hid (HK.out n hnn)
      rw [hnn] at hc1
      clear hc1' hB hn hnn HK
      by_cases h5 : 50 < n
      · have e1 : decide (50 < n) = true := decide_eq_true h5
        have e1' : decide ((50 : Int) < (n : Int)) = true := decide_eq_true (by omega)
        have HV := Lib.hid (HK2.out.2 h5)
        clear h5
        go_wp2_with fail
        go_ret
        exact ⟨by rw [HV.out]; rfl, HB.out⟩
      · have e1 : decide (50 < n) = false := decide_eq_false h5
        have e1' : decide ((50 : Int) < (n : Int)) = false := decide_eq_false (by omega)
        have HV := Lib.hid (HK2.out.1 (by omega))
        clear h5
        go_wp2_with fail
        go_roundw
        case rel => exact ⟨k + 1, by omega, by go_num, HV.out, HB.out⟩
        case measure => simp [intOf]; omega
    · obtain rfl : k = l.length := by omega
      have HV := Lib.hid (show fewM l = true from decide_eq_true ⟨by omega, fun r hr => by obtain ⟨j, hj, rfl⟩ := List.mem_iff_getElem.1 hr; exact hn j hj hj⟩)
      have HB := Lib.hid hB
      clear hn hB
      go_wp2_with fail
      go_ret
      exact ⟨by rw [HV.out]; rfl, HB.out⟩

/-! ### rows that are written over -/
/-- so many rows at the block b, with so many arcs each; the arcs' blocks are in fe, and not b -/
def SoftR (W : World) (b : Nat) (fe : Nat → Prop) (L : List Nat) : Prop :=
  ¬ fe b ∧ ∃ cur, W.heap[b]? = some (.cells cur 80 (0, 0)) ∧ ∀ i (h : i < L.length), ∃ (x : Nat) (a : Option Addr) (c : Nat), x < 4294967296 ∧ cur[i * 2]? = some (.int .u32 (x : Nat)) ∧ cur[i * 2 + 1]? = some (.slice a L[i] c) ∧
    (0 < L[i] → ∃ bi oi ci, a = some ⟨bi, oi, none⟩ ∧ fe bi ∧ W.heap[bi]? = some (.cells ci 42 (0, 0)) ∧ oi + 2 * L[i] ≤ ci.size)
theorem SoftR.of {W : World} {b cap : Nat} {fe : Nat → Prop} {R : List RowD} (h : OwnS rowRep fe W (some ⟨b, 0, none⟩) cap (some b) 80 R) (hfe : ∀ k, fe k → k ≠ b ∧ softArcs W k) : SoftR W b fe (R.map (fun r => r.2.length)) := by
  refine ⟨fun e => (hfe b e).1 rfl, ?_⟩
  obtain ⟨css, ⟨hlen, hown⟩, hall⟩ := h
  rcases hown with ⟨h0, _⟩ | ⟨b', cur, hb, _, hh, hn, hc, hcs, ht⟩
  · cases h0
  cases hb
  refine ⟨cur, hh, fun i hi => ?_⟩
  have hi' : i < R.length := by simpa using hi
  obtain ⟨cs, ⟨c1, d1, rfl, ⟨rfl, h1⟩, ra, rc, rfl, h2, h3, h4⟩, h5⟩ := flatten_chunk rowRep fe W hall i R[i] (List.getElem?_eq_getElem hi')
  have hcell : ∀ j, j < 2 → cur[i * 2 + j]? = ([.int .u32 (R[i].1 : Nat)] ++ [.slice ra R[i].2.length rc] : List Value)[j]? := fun j hj => by
    rw [← h5 j hj, ← ht, List.getElem?_take, if_pos (by show i * 2 + j < R.length * 2; omega)]
    simp; rfl
  have e0 := hcell 0 (by omega)
  have e1 := hcell 1 (by omega)
  simp at e0 e1
  refine ⟨R[i].1, ra, rc, h1, e0, by simpa using e1, fun hpos => ?_⟩
  have hpos' : 0 < R[i].2.length := by simpa using hpos
  rcases h4 with h4 | ⟨bi, oi, hra, hf, hbl, hx⟩
  · rw [h4] at hpos'; simp at hpos'
  obtain ⟨ci, hci⟩ := (hfe bi hf).2
  refine ⟨bi, oi, ci, hra, hf, hci, ?_⟩
  obtain ⟨cs2, ⟨c2, d2, rfl, ⟨rfl, _⟩, ⟨rfl, _⟩⟩, h7⟩ := hx (R[i].2.length - 1) _ (List.getElem?_eq_getElem (by omega))
  have h8 := h7 1 (by decide)
  rw [cell_of_row W bi _ ci _ (0, 0) hci] at h8
  simp at h8
  have h9 := (Array.getElem?_eq_some_iff.1 h8).1
  have h10 : (R[i].2.length - 1) * arcRep.size = (R[i].2.length - 1) * 2 := rfl
  rw [h10] at h9
  simp
  omega
theorem SoftR.cell {W : World} {b : Nat} {fe : Nat → Prop} {L : List Nat} (h : SoftR W b fe L) {i : Nat} (hi : i < L.length) :
    ∃ (x : Nat) (a : Option Addr) (c : Nat), x < 4294967296 ∧ W.cell? ⟨b, i * 2, none⟩ = some (.int .u32 (x : Nat)) ∧ W.cell? ⟨b, i * 2 + 1, none⟩ = some (.slice a L[i] c) ∧ W.frozen? ⟨b, i * 2, none⟩ = false ∧
      (0 < L[i] → ∃ bi oi ci, a = some ⟨bi, oi, none⟩ ∧ fe bi ∧ W.heap[bi]? = some (.cells ci 42 (0, 0)) ∧ oi + 2 * L[i] ≤ ci.size) := by
  obtain ⟨hb, cur, hh, hx⟩ := h
  obtain ⟨x, a, c, h1, h2, h3, h4⟩ := hx i hi
  exact ⟨x, a, c, h1, (cell_of_row W b _ cur _ (0, 0) hh).trans h2, (cell_of_row W b _ cur _ (0, 0) hh).trans h3, frozen_of_row W b _ cur _ hh, h4⟩
/-- a store into a row's number -/
theorem SoftR.from {W : World} {b : Nat} {fe : Nat → Prop} {L : List Nat} (h : SoftR W b fe L) {i x : Nat} (hi : i < L.length) (hx : x < 4294967296) : SoftR (W.setCell ⟨b, i * 2, none⟩ (.int .u32 (x : Nat))) b fe L := by
  obtain ⟨hb, cur, hh, hc⟩ := h
  have hs := heap_setCells_in b 80 (0, 0) [.int .u32 (x : Nat)] (i * 2) W cur hh
  refine ⟨hb, _, hs, fun j hj => ?_⟩
  obtain ⟨y, a, c, h1, h2, h3, h4⟩ := hc j hj
  obtain ⟨y0, _, _, _, hi2, _⟩ := hc i hi
  have hil := (Array.getElem?_eq_some_iff.1 hi2).1
  refine ⟨if j = i then x else y, a, c, by split <;> assumption, ?_, ?_, fun hp => ?_⟩
  · show (cur.setIfInBounds (i * 2) _)[j * 2]? = _
    rw [Array.getElem?_setIfInBounds]
    by_cases e : j = i
    · subst e; simp [hil]
    · rw [if_neg (by omega), if_neg e]; exact h2
  · show (cur.setIfInBounds (i * 2) _)[j * 2 + 1]? = _
    rw [Array.getElem?_setIfInBounds, if_neg (by omega)]; exact h3
  · obtain ⟨bi, oi, ci, g1, g2, g3, g4⟩ := h4 hp
    exact ⟨bi, oi, ci, g1, g2, (Below.heap_setCell _ _ _ _ (fun e => hb (by simp only at e; rw [← e]; exact g2))).trans g3, g4⟩
/-- stores among the arcs -/
theorem SoftR.arcs {W W' : World} {b q : Nat} {fe : Nat → Prop} {L : List Nat} (h : SoftR W b fe L) (hq : fe q) (ho : Only (fun k => k = q) W W') (hs : ∀ ci, W.heap[q]? = some (.cells ci 42 (0, 0)) → ∃ ci', W'.heap[q]? = some (.cells ci' 42 (0, 0)) ∧ ci'.size = ci.size) : SoftR W' b fe L := by
  obtain ⟨hb, cur, hh, hc⟩ := h
  refine ⟨hb, cur, (ho.same b (Array.getElem?_eq_some_iff.1 hh).1 (fun e => hb (e ▸ hq))).trans hh, fun j hj => ?_⟩
  obtain ⟨y, a, c, h1, h2, h3, h4⟩ := hc j hj
  refine ⟨y, a, c, h1, h2, h3, fun hp => ?_⟩
  obtain ⟨bi, oi, ci, g1, g2, g3, g4⟩ := h4 hp
  by_cases e : bi = q
  · subst e
    obtain ⟨ci', k1, k2⟩ := hs ci g3
    exact ⟨bi, oi, ci', g1, g2, k1, by omega⟩
  · exact ⟨bi, oi, ci, g1, g2, (ho.same bi (Array.getElem?_eq_some_iff.1 g3).1 e).trans g3, g4⟩
theorem SoftR.keep {W W' : World} {b : Nat} {fe : Nat → Prop} {L : List Nat} (h : SoftR W b fe L) (hB : Below W.heap.size W W') : SoftR W' b fe L := by
  obtain ⟨hb, cur, hh, hc⟩ := h
  refine ⟨hb, cur, (hB.block b (Array.getElem?_eq_some_iff.1 hh).1).trans hh, fun j hj => ?_⟩
  obtain ⟨y, a, c, h1, h2, h3, h4⟩ := hc j hj
  refine ⟨y, a, c, h1, h2, h3, fun hp => ?_⟩
  obtain ⟨bi, oi, ci, g1, g2, g3, g4⟩ := h4 hp
  exact ⟨bi, oi, ci, g1, g2, (hB.block bi (Array.getElem?_eq_some_iff.1 g3).1).trans g3, g4⟩
theorem arcs_there {W : World} {bi oi n k : Nat} {ci : Array Value} (h : W.heap[bi]? = some (.cells ci 42 (0, 0))) (hs : oi + 2 * n ≤ ci.size) (hk : k < n) : W.there bi (oi + k * 2) 2 := fun j hj => by
  refine ⟨?_, frozen_of_row W bi _ ci _ h⟩
  rw [cell_of_row W bi _ ci _ (0, 0) h, Array.getElem?_eq_getElem (by omega)]
  rfl
end Go.Proofs.Ytlgnpogmgpgdaaa
