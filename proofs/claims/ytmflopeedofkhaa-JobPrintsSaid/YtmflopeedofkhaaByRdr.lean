/- Texts merged into one: JRdr, JRdrWalk, JRdrSrc, JRdrNums, JRdrLine, JRdrBeg, JRead. -/
import Derived.Test.YtmflopeedofkhaaByJobP
import Derived.Test.YtmflopeedofkhaaByRef
import Derived.Test.YtmflopeedofkhaaByRep
import Derived.Test.YtmflopeedofkhaaByJobM
import Derived.Test.YtmflopeedofkhaaByText
import Derived.Test.YtmflopeedofkhaaU32s
import Derived.Laws.EntriesVeiled
import Derived.Test.YtmflopeedofkhaaByRefR
import Derived.Test.YtmflopeedofkhaaByRow
import Derived.Test.YtmflopeedofkhaaByBase
namespace Go.Proofs.Ytmflopeedofkhaa
set_option linter.unusedSimpArgs false
set_option linter.unusedVariables false
set_option maxRecDepth 100000
open Go.RowKit

theorem blk_lt {w : World} {b : Nat} {o : Obj} (h : w.heap[b]? = some o) : b < w.heap.size := (Array.getElem?_eq_some_iff.1 h).1
def rdrCs (j : JobD) (so : Option Addr) (sc mb tb : Nat) : Array Value := jobCs j so sc ++ #[.map (some mb), .map (some tb)]
def metF (met : List W8) : W8 → Option Value := fun s => if s ∈ met then some (.agg #[]) else none
def takeV (rb n fn : Nat) : Value := .agg #[.int .i64 (n : Nat), .func (.func fn) #[.pointer (some ⟨rb, 0, none⟩)] #[]]
def takeF (rb : Nat) : W8 → Option Value := fun k => if k = kWalk then some (takeV rb 1 41) else if k = kSeed then some (takeV rb 1 42) else if k = kSource then some (takeV rb 1 43)
  else if entryJ k = [] then none else some (takeV rb (entryJ k).length 44)
structure Rdr (rb mb tb : Nat) (j : JobD) (so : Option Addr) (sc : Nat) (g : Option Nat) (met : List W8) (w : World) : Prop where
  row : w.heap[rb]? = some (.cells (rdrCs j so sc mb tb) 60 (0, 0))
  src : Own w so sc g 25 1 j.src.length (u32s j.src)
  met : MapFn w mb (metF met)
  tak : MapFn w tb (takeF rb)
  gn : g ≠ some rb
  mt : mb ≠ tb
section
variable {rb mb tb : Nat} {j : JobD} {so : Option Addr} {sc : Nat} {g : Option Nat} {met : List W8} {w w' : World}
theorem Rdr.lt (h : Rdr rb mb tb j so sc g met w) : rb < w.heap.size := blk_lt h.row
theorem map_ne {b : Nat} {f : W8 → Option Value} (h : MapFn w b f) {c : Nat} {cs : Array Value} {t : TypeId} {fr : Nat × Nat} (hr : w.heap[c]? = some (.cells cs t fr)) : b ≠ c := fun e => by
  obtain ⟨es, clk, h1, _⟩ := h
  unfold MapIs at h1
  rw [e, hr] at h1
  cases h1
theorem own_ne {b : Nat} {f : W8 → Option Value} (h : MapFn w b f) {e : TypeId} {n size : Nat} {xs : List Value} (ho : Own w so sc g e size n xs) : g ≠ some b := fun e' => by
  rcases ho.2 with ⟨_, _, _, h2⟩ | ⟨b', cur, hg, _, hh, _⟩
  · rw [h2] at e'; cases e'
  · rw [e'] at hg; cases hg; exact map_ne h hh rfl
theorem Rdr.keep (h : Rdr rb mb tb j so sc g met w) {fp : Nat → Prop} (ho : Only fp w w') (h1 : ¬ fp rb) (h2 : ¬ fp mb) (h3 : ¬ fp tb) (h4 : ∀ b, g = some b → ¬ fp b) : Rdr rb mb tb j so sc g met w' :=
  ⟨(ho.same _ h.lt h1).trans h.row, h.src.only ho h4, h.met.only ho h2, h.tak.only ho h3, h.gn, h.mt⟩
theorem Rdr.ext (h : Rdr rb mb tb j so sc g met w) (hB : Below w.heap.size w w') : Rdr rb mb tb j so sc g met w' :=
  h.keep (fp := fun _ => False) (Only.of_below hB) id id id (fun _ _ => id)
theorem Rdr.at (h : Rdr rb mb tb j so sc g met w) (i : Nat) {v : Value} (hv : (rdrCs j so sc mb tb)[i]? = some v) : w.cell? ⟨rb, i, none⟩ = some v := (cell_of_row _ _ _ _ _ _ h.row).trans hv
theorem Rdr.fz (h : Rdr rb mb tb j so sc g met w) (i : Nat) : w.frozen? ⟨rb, i, none⟩ = false := frozen_of_row w rb i _ _ h.row
/-- a cell of the reader's job anew -/
theorem Rdr.set (h : Rdr rb mb tb j so sc g met w) {i : Nat} (hi : i < 15) {v : Value} {j' : JobD} (hv : (jobCs j so sc).setIfInBounds i v = jobCs j' so sc) (hs : j'.src = j.src) : Rdr rb mb tb j' so sc g met (w.setCell ⟨rb, i, none⟩ v) := by
  have hr : (w.setCell ⟨rb, i, none⟩ v).heap[rb]? = some (.cells (rdrCs j' so sc mb tb) 60 (0, 0)) := by
    rw [row_set19 h.row]
    unfold rdrCs
    rw [Array.setIfInBounds_append_left (show i < (jobCs j so sc).size from hi), hv]
  refine ⟨hr, ?_, ?_, ?_, h.gn, h.mt⟩
  · rw [hs]; exact h.src.setCell (fun b hb e => h.gn (by rw [hb]; exact congrArg some e)) v
  · exact h.met.keep (Below.heap_setCell _ _ _ _ (map_ne h.met h.row))
  · exact h.tak.keep (Below.heap_setCell _ _ _ _ (map_ne h.tak h.row))
theorem Rdr.num (h : Rdr rb mb tb j so sc g met w) {c : Nat} (hc : c ∈ numCells) (n : Nat) : Rdr rb mb tb (setC j c n) so sc g met (w.setCell ⟨rb, c, none⟩ (.int .u32 (n : Nat))) :=
  h.set (by simp only [numCells, List.mem_cons, List.not_mem_nil, or_false] at hc; omega) (jobCs_set hc n) (setC_src j c n)
/-- texts don't lie in the reader -/
theorem Rdr.text (h : Rdr rb mb tb j so sc g met w) {b off : Nat} {s : ByteArray} (hc : w.cell? ⟨b, off, none⟩ = some (.string s)) : b ≠ rb := fun e => by
  rw [e, cell_of_row _ _ _ _ _ _ h.row] at hc
  have := Array.mem_of_getElem? hc
  simp [rdrCs, jobCs] at this
end
/-- what a reader's method hands back -/
def MethRet (rb mb tb : Nat) (met : List W8) (r : JobD × Nat) (g : Option Nat) (w : World) (e : Ending) (w' : World) : Prop :=
  e = .returned (.int .i64 (r.2 : Nat)) ∧ (r.2 = 0 → ∃ so sc g', Rdr rb mb tb r.1 so sc g' met w' ∧ (g' = g ∨ ∀ b, g' = some b → w.heap.size ≤ b)) ∧ Only (fun k => k = rb ∨ g = some k) w w'
def kindCs : Array Value := #[.string (bs [102, 105, 120, 101, 100]), .string (bs [114, 101, 115, 116, 97, 114, 116]), .string (bs [115, 101, 99, 111, 110, 100])]
def kindV : Value := .agg kindCs
theorem kindsX_any (w : World) : Calls Try.prog 27 #[] w (RetB kindV w) := by
  go_enter Try.func27, Try.ntmps27
  go_wp2_with fail
  refine bodyPost_ret (results_cell_row rfl _ _ w.heap.size 64 _ (0, 0) _ rfl (heap_alloc_new w _) Try.underlying64 rfl (by kernel_rfl)) rfl ⟨rfl, ext_alloc w _⟩
theorem idx_kind0 (W : World) : (Instr.index 64 kindV (.int .i64 ((0 : Nat) : Int))).run Try.prog W = .ok (.string (bs [102, 105, 120, 101, 100])) W := by kernel_rfl
theorem idx_kind1 (W : World) : (Instr.index 64 kindV (.int .i64 ((1 : Nat) : Int))).run Try.prog W = .ok (.string (bs [114, 101, 115, 116, 97, 114, 116])) W := by kernel_rfl
theorem idx_kind2 (W : World) : (Instr.index 64 kindV (.int .i64 ((2 : Nat) : Int))).run Try.prog W = .ok (.string (bs [115, 101, 99, 111, 110, 100])) W := by kernel_rfl
theorem idx_kind : ∀ {k : Nat}, k < 3 → ∀ W : World, (Instr.index 64 kindV (.int .i64 (k : Nat))).run Try.prog W = .ok (.string (bs kindW[k]!)) W
  | 0, _, W => idx_kind0 W
  | 1, _, W => idx_kind1 W
  | 2, _, W => idx_kind2 W
theorem kindOf_at : ∀ {k : Nat}, k < 3 → kindOf kindW[k]! = some k
  | 0, _ => by decide
  | 1, _ => by decide
  | 2, _ => by decide
end Go.Proofs.Ytmflopeedofkhaa

namespace Go.Proofs.Ytmflopeedofkhaa
set_option linter.unusedSimpArgs false
set_option linter.unusedVariables false
set_option maxRecDepth 100000
open Go.RowKit

def wkI (s : W8) (w1 : World) (i : Value) (wr : World) : Prop := ∃ a : Nat, a ≤ 3 ∧ i = .int .i64 (a : Nat) ∧ (∀ q, q < a → kindW[q]? ≠ some s) ∧ wr = w1
set_option maxHeartbeats 3200000 in
theorem jwalk_any (rb mb tb : Nat) (j : JobD) (so : Option Addr) (sc : Nat) (g : Option Nat) (met : List W8) (w : World) (H : Rdr rb mb tb j so sc g met w) (k s : W8) (lo : Option Addr) (lc : Nat) (hl : Rd w lo 1 (strCells [s])) :
    Calls Try.prog 41 #[.pointer (some ⟨rb, 0, none⟩), .string (bs k), .slice lo 1 lc] w (MethRet rb mb tb met (walkJ j s) g w) := by
  have HK := Lib.hid (fun W => kindsX_any W)
  obtain ⟨b, off, rfl, hb, hc⟩ := hl.pos (by omega)
  have c0 : w.cell? ⟨b, off, none⟩ = some (.string (bs s)) := by
    exact (hc 0 (by omega)).trans rfl
  have Hb := Lib.hid hb
  have HR0 := Lib.hid H
  clear H hl hc hb
  go_enter Try.func41, Try.ntmps41
  go_wp2_with (go_at_call 27; (with_reducible refine (HK.out _).mono ?_); rintro e w1 ⟨rfl, hx⟩; have B1 := Lib.hid hx; clear hx)
  have c1 : w1.cell? ⟨b, off, none⟩ = some (.string (bs s)) := ((bcell B1.out).1 b off Hb.out).trans c0
  have HR1 := Lib.hid (HR0.out.ext B1.out)
  clear c0
  go_loopw [7, 8, 10] (fun _ _ i wr => wkI s w1 i wr) (fun _ _ i _ => 3 - (intOf i).toNat)
  case atStart => exact ⟨0, by omega, rfl, fun q h => by omega, rfl⟩
  case round =>
    obtain ⟨a, ha, rfl, hne, rfl⟩ := hrel
    have Hne := Lib.hid hne
    clear hne
    by_cases hlt : a < 3
    · have hidx := fun u => idx_kind hlt u
      have hir : (a : Int) < 3 := by omega
      have Hk := Lib.hid (show kindW[a]? = some kindW[a]! by
        have : a = 0 ∨ a = 1 ∨ a = 2 := by omega
        rcases this with rfl | rfl | rfl <;> rfl)
      have HO := Lib.hid (kindOf_at hlt)
      generalize kindW[a]! = lit at hidx Hk HO
      by_cases he : lit = s
      · have hw8 : IntKind.u8.wrap (a : Int) = (a : Int) := by simp [IntKind.wrap, IntKind.bits, IntKind.signed]; omega
        have hset : (jobCs j so sc).setIfInBounds 0 (.int .u8 (a : Nat)) = jobCs { j with kind := a } so sc := by simp [jobCs]
        have hr2 := HR1.out.set (show 0 < 15 by omega) hset rfl
        have HR2 := Lib.hid hr2
        have HRR := Lib.hid (show walkJ j s = ({ j with kind := a }, 0) by unfold walkJ; rw [← he, HO.out])
        have k0 := HR1.out.at 0 (v := .int .u8 (j.kind : Nat)) rfl
        have k3 := HR1.out.fz 0
        have s1 : (lit == s) = true := by rw [he]; simp
        have HOn := Lib.hid ((Only.of_below B1.out).trans ((Only.refl (fun k => k = rb) wr).setCell (p := ⟨rb, 0, none⟩) (fun _ => rfl) (.int .u8 (a : Nat))) (fp := fun k => k = rb ∨ g = some k) (fun i _ h => .inl h))
        generalize j.kind = o1 at k0
        clear hset hr2 he Hk
        go_wp2_with fail
        go_ret
        refine ⟨by rw [HRR.out]; rfl, fun _ => ⟨so, sc, g, by rw [HRR.out]; exact HR2.out, .inl rfl⟩, HOn.out⟩
      · have s1 : (lit == s) = false := beq_eq_false_iff_ne.2 he
        have Hx := Lib.hid (show kindW[a]? ≠ some s from fun h => he (by rw [Hk.out] at h; injection h))
        clear he Hk HO
        go_wp2_with fail
        go_roundw
        case rel => exact ⟨a + 1, by omega, by go_num, fun q hq => by
            by_cases hqa : q < a
            · exact Hne.out q hqa
            · obtain rfl : q = a := by omega
              exact Hx.out, rfl⟩
        case measure => simp [intOf]; omega
    · obtain rfl : a = 3 := by omega
      have HRR := Lib.hid (show walkJ j s = (j, 3) by
        unfold walkJ kindOf
        rw [if_neg (fun h => Hne.out 0 (by omega) (by rw [h]; rfl)), if_neg (fun h => Hne.out 1 (by omega) (by rw [h]; rfl)), if_neg (fun h => Hne.out 2 (by omega) (by rw [h]; rfl))])
      go_wp2_with fail
      go_ret
      refine ⟨by rw [HRR.out]; rfl, fun h => (by rw [HRR.out] at h; cases h), Only.of_below B1.out⟩
set_option maxHeartbeats 3200000 in
theorem jseed_any (rb mb tb : Nat) (j : JobD) (so : Option Addr) (sc : Nat) (g : Option Nat) (met : List W8) (w : World) (H : Rdr rb mb tb j so sc g met w) (k s : W8) (hs : s.length ≤ 1073741824) (lo : Option Addr) (lc : Nat) (hl : Rd w lo 1 (strCells [s])) :
    Calls Try.prog 42 #[.pointer (some ⟨rb, 0, none⟩), .string (bs k), .slice lo 1 lc] w (MethRet rb mb tb met (seedJ j s) g w) := by
  have HN := Lib.hid (fun W => num_any s 18446744073709551615 hs (by omega) W)
  obtain ⟨b, off, rfl, hb, hc⟩ := hl.pos (by omega)
  have c0 : w.cell? ⟨b, off, none⟩ = some (.string (bs s)) := by
    exact (hc 0 (by omega)).trans rfl
  have HR0 := Lib.hid H
  have HRR := Lib.hid (show seedJ j s = if (num s 18446744073709551615).2 ≠ 0 then (j, (num s 18446744073709551615).2) else ({ j with seed := (num s 18446744073709551615).1 }, 0) from rfl)
  clear H hl hc hb hs
  generalize num s 18446744073709551615 = nn at *
  obtain ⟨n, e0⟩ := nn
  go_enter Try.func42, Try.ntmps42
  go_upto_region 2 with (go_at_call 56; refine (HN.out _).mono ?_; unfold numOut; rintro e w1 ⟨rfl, hx⟩; have B1 := Lib.hid hx; clear hx)
  have HR1 := Lib.hid (HR0.out.ext B1.out)
  have hset : (jobCs j so sc).setIfInBounds 1 (.int .u64 (n : Nat)) = jobCs { j with seed := n } so sc := by simp [jobCs]
  have HR2 := Lib.hid (HR1.out.set (show 1 < 15 by omega) hset rfl)
  have k0 := HR1.out.at 1 (v := .int .u64 (j.seed : Nat)) rfl
  have k3 := HR1.out.fz 1
  have HOn := Lib.hid ((Only.of_below B1.out).trans ((Only.refl (fun k => k = rb) w1).setCell (p := ⟨rb, 1, none⟩) (fun _ => rfl) (.int .u64 (n : Nat))) (fp := fun k => k = rb ∨ g = some k) (fun i _ h => .inl h))
  generalize hsd : j.seed = o1 at k0
  clear hset
  go_wp2_with fail
  go_ret
  by_cases he : e0 = 0
  · subst he
    have hr : seedJ j s = ({ j with seed := n }, 0) := HRR.out
    exact ⟨by rw [hr]; rfl, fun _ => ⟨so, sc, g, by rw [hr]; exact HR2.out, .inl rfl⟩, HOn.out⟩
  · have hr : seedJ j s = (j, e0) := HRR.out.trans (if_pos he)
    exact ⟨by rw [hr]; rfl, fun h => (by rw [hr] at h; exact absurd h he), HOn.out⟩
end Go.Proofs.Ytmflopeedofkhaa

namespace Go.Proofs.Ytmflopeedofkhaa
set_option linter.unusedSimpArgs false
set_option linter.unusedVariables false
set_option maxRecDepth 100000
open Go.RowKit

def ixI (l : List Nat) (n : Nat) (w : World) (i : Value) (wr : World) : Prop := ∃ a : Nat, a ≤ l.length ∧ i = .int .i64 (a : Nat) ∧ (∀ q, q < a → l[q]? ≠ some n) ∧ wr = w
/-- where it stands first; -1: nowhere -/
def ixR (l : List Nat) (n : Nat) : Int := if n ∈ l then (l.idxOf n : Nat) else -1
theorem idx_here {l : List Nat} {n a : Nat} (h : a < l.length) (he : l[a] = n) (hne : ∀ q, q < a → l[q]? ≠ some n) : l.idxOf n = a := by
  have hm : n ∈ l := he ▸ List.getElem_mem h
  have h1 : l.idxOf n < l.length := List.idxOf_lt_length_iff.2 hm
  have h2 : l[l.idxOf n] = n := List.getElem_idxOf h1
  rcases Nat.lt_trichotomy (l.idxOf n) a with h3 | h3 | h3
  · exact absurd (by rw [List.getElem?_eq_getElem h1, h2]) (hne _ h3)
  · exact h3
  · exact absurd he (by have := List.not_of_lt_findIdx (p := (· == n)) (xs := l) (i := a) h3; simpa using this)
set_option maxHeartbeats 3200000 in
theorem index32_any (l : List Nat) (n : Nat) (hl : l.length ≤ 1000000) (ao : Option Addr) (cap : Nat) (w : World) (hrd : Rd w ao l.length (u32s l)) :
    Calls Try.prog 76 #[.slice ao l.length cap, .int .u32 (n : Nat)] w fun e w' => e = .returned (.int .i64 (ixR l n)) ∧ w' = w := by
  have Hrd := Lib.hid hrd
  clear hrd
  go_enter Try.func76, Try.ntmps76
  go_wp2_with fail
  go_loopw [5, 8] (fun _ i wr => ixI l n w i wr) (fun _ i _ => l.length - (intOf i).toNat)
  case atStart => exact ⟨0, Nat.zero_le _, rfl, fun q h => by omega, rfl⟩
  case round =>
    obtain ⟨a, ha, rfl, hne, rfl⟩ := hrel
    have Hne := Lib.hid hne
    clear hne
    by_cases hlt : a < l.length
    · have hir : (a : Int) < (l.length : Int) := by omega
      obtain ⟨b, off, rfl, hb, hc⟩ := Hrd.out.pos (by omega)
      have c1 := hc a hlt
      simp only [u32s, List.getElem?_map, List.getElem?_eq_getElem hlt, Option.map_some] at c1
      clear hc hb
      by_cases he : l[a] = n
      · have HX := Lib.hid (show ixR l n = (a : Nat) by unfold ixR; rw [if_pos (he ▸ List.getElem_mem hlt), idx_here hlt he Hne.out])
        have he' : ((n : Int) == (l[a] : Int)) = true := by rw [he]; simp
        generalize l[a] = y at c1 he'
        clear he
        go_wp2_with fail
        go_ret
        exact ⟨by rw [HX.out]; rfl, rfl⟩
      · have Hx := Lib.hid (show l[a]? ≠ some n from fun h => he (by rw [List.getElem?_eq_getElem hlt] at h; injection h))
        have he' : ((n : Int) == (l[a] : Int)) = false := beq_eq_false_iff_ne.2 (by omega)
        generalize l[a] = y at c1 he'
        clear he
        go_wp2_with fail
        go_roundw
        case rel => exact ⟨a + 1, by omega, by go_num, fun q hq => by
            by_cases hqa : q < a
            · exact Hne.out q hqa
            · obtain rfl : q = a := by omega
              exact Hx.out, rfl⟩
        case measure => simp [intOf]; omega
    · obtain rfl : a = l.length := by omega
      have HX := Lib.hid (show ixR l n = -1 by
        unfold ixR
        refine if_neg fun h => ?_
        obtain ⟨q, hq, he⟩ := List.getElem_of_mem h
        exact Hne.out q hq (by rw [List.getElem?_eq_getElem hq, he]))
      go_wp2_with fail
      go_ret
      exact ⟨by rw [HX.out]; rfl, rfl⟩
theorem contains32_any (l : List Nat) (n : Nat) (hl : l.length ≤ 1000000) (ao : Option Addr) (cap : Nat) (w : World) (hrd : Rd w ao l.length (u32s l)) :
    Calls Try.prog 57 #[.slice ao l.length cap, .int .u32 (n : Nat)] w fun e w' => e = .returned (.bool (decide (n ∈ l))) ∧ w' = w := by
  have HI := Lib.hid (fun W => index32_any l n hl ao cap W)
  have Hrd := Lib.hid hrd
  have HX := Lib.hid (show decide (0 ≤ ixR l n) = decide (n ∈ l) by
    unfold ixR
    by_cases h : n ∈ l
    · rw [if_pos h]; simp [h]
    · rw [if_neg h]; simp [h])
  clear hrd
  generalize ixR l n = x at HI HX
  go_enter Try.func57, Try.ntmps57
  go_wp2_with (go_at_call 76; (with_reducible refine (HI.out _ Hrd.out).mono ?_); rintro e w1 ⟨rfl, rfl⟩)
  go_ret
  exact ⟨by rw [← HX.out]; rfl, rfl⟩
theorem Rdr.app {rb mb tb : Nat} {j : JobD} {so : Option Addr} {sc : Nat} {g : Option Nat} {met : List W8} {w w7 : World} (h : Rdr rb mb tb j so sc g met w) {n : Nat} {ao7 : Option Addr} {cap7 : Nat} {g7 : Option Nat}
    (ho : Own w7 ao7 cap7 g7 25 1 (j.src.length + 1) (u32s j.src ++ [.int .u32 (n : Nat)])) (hg : g7 = g ∨ ∀ b, g7 = some b → w.heap.size ≤ b) (hon : Only (fun k => g = some k) w w7) :
    Rdr rb mb tb { j with src := j.src ++ [n] } ao7 cap7 g7 met (w7.setCell ⟨rb, 4, none⟩ (.slice ao7 (j.src.length + 1) cap7)) := by
  have hset : (jobCs j so sc).setIfInBounds 4 (.slice ao7 (j.src.length + 1) cap7) = jobCs { j with src := j.src ++ [n] } ao7 cap7 := by simp [jobCs]
  have hr7 : w7.heap[rb]? = some (.cells (rdrCs j so sc mb tb) 60 (0, 0)) := (hon.same _ h.lt h.gn).trans h.row
  have hgn : g7 ≠ some rb := fun e => by
    rcases hg with h1 | h1
    · exact h.gn (h1 ▸ e)
    · have := h1 _ e; have := h.lt; omega
  have hmr := map_ne h.met h.row
  have htr := map_ne h.tak h.row
  refine ⟨?_, ?_, ?_, ?_, hgn, h.mt⟩
  · rw [row_set19 hr7]
    unfold rdrCs
    rw [Array.setIfInBounds_append_left (show 4 < (jobCs j so sc).size from (by decide : 4 < 15)), hset]
  · have e1 : ({ j with src := j.src ++ [n] } : JobD).src.length = j.src.length + 1 := by simp
    have e2 : u32s ({ j with src := j.src ++ [n] } : JobD).src = u32s j.src ++ [.int .u32 (n : Nat)] := by simp [u32s]
    rw [e1, e2]
    exact ho.setCell (fun b hb e => hgn (by rw [hb]; exact congrArg some e)) _
  · exact (h.met.only hon (own_ne h.met h.src)).keep (Below.heap_setCell _ _ _ _ hmr)
  · exact (h.tak.only hon (own_ne h.tak h.src)).keep (Below.heap_setCell _ _ _ _ htr)
set_option maxHeartbeats 3200000 in
theorem jsource_any19 (rb mb tb : Nat) (j : JobD) (hfew : j.src.length ≤ 256) (so : Option Addr) (sc : Nat) (g : Option Nat) (met : List W8) (w : World) (H : Rdr rb mb tb j so sc g met w) (k s : W8) (hs : s.length ≤ 1073741824) (lo : Option Addr) (lc : Nat) (hl : Rd w lo 1 (strCells [s])) :
    Calls Try.prog 43 #[.pointer (some ⟨rb, 0, none⟩), .string (bs k), .slice lo 1 lc] w (MethRet rb mb tb met (sourceJ j s) g w) := by
  have HN := Lib.hid (fun W => num_any s 4294967295 hs (by omega) W)
  have hb1 := num_lt (w := s) (most := 4294967295)
  obtain ⟨b, off, rfl, hb, hc⟩ := hl.pos (by omega)
  have c0 : w.cell? ⟨b, off, none⟩ = some (.string (bs s)) := by
    exact (hc 0 (by omega)).trans rfl
  have HR0 := Lib.hid H
  have HRR := Lib.hid (show sourceJ j s = if (num s 4294967295).2 ≠ 0 then (j, (num s 4294967295).2) else if (num s 4294967295).1 ∈ j.src then (j, 13) else if j.src.length = 256 then (j, 4) else ({ j with src := j.src ++ [(num s 4294967295).1] }, 0) from rfl)
  clear H hl hc hb hs
  generalize num s 4294967295 = nn at *
  obtain ⟨n, e0⟩ := nn
  simp only at hb1 HRR
  generalize sourceJ j s = RR at *
  go_enter Try.func43, Try.ntmps43
  go_upto_region 2 with (go_at_call 56; refine (HN.out _).mono ?_; unfold numOut; rintro e w1 ⟨rfl, hx⟩; have B1 := Lib.hid hx; clear hx)
  have HR1 := Lib.hid (HR0.out.ext B1.out)
  have HO1 := Lib.hid (Only.of_below (fp := fun k => k = rb ∨ g = some k) B1.out)
  by_cases he : e0 ≠ 0
  · have d1 : ((e0 : Int) != 0) = true := by simp; omega
    have d1' : (e0 != 0) = true := by simp; omega
    have hR : RR = (j, e0) := HRR.out.trans (if_pos he)
    have HR := Lib.hid (And.intro hR he)
    clear he hR
    go_wp2_with fail
    go_ret
    exact ⟨by rw [HR.out.1]; rfl, fun h => (by rw [HR.out.1] at h; exact absurd h HR.out.2), HO1.out⟩
  have d1 : ((e0 : Int) != 0) = false := by simp; omega
  have d1' : (e0 != 0) = false := by simp; omega
  have hR := HRR.out
  rw [if_neg he] at hR
  have HR := Lib.hid hR
  have u1 : IntKind.u32.wrap (n : Int) = (n : Int) := IntWalk.u32_in _ (by omega)
  have c4 := HR1.out.at 4 (v := .slice so j.src.length sc) rfl
  have f4 := HR1.out.fz 4
  have HC := Lib.hid (contains32_any j.src n (by omega) so sc w1 HR1.out.src.rd)
  clear he hR hb1 HRR
  have Hfew := Lib.hid hfew
  obtain ⟨m, hm⟩ : ∃ m, j.src.length = m := ⟨_, rfl⟩
  have Hm := Lib.hid hm
  rw [hm] at c4 HC
  by_cases h1 : n ∈ j.src
  · have hd : decide (n ∈ j.src) = true := decide_eq_true h1
    rw [hd] at HC
    have HR2 := Lib.hid (HR.out.trans (if_pos h1))
    clear h1 hd hm hfew
    go_wp2_with (go_at_call 57; (with_reducible refine HC.out.mono ?_); rintro e w2 ⟨rfl, rfl⟩)
    go_ret
    exact ⟨by rw [HR2.out]; rfl, fun h => (by rw [HR2.out] at h; cases h), HO1.out⟩
  have hd : decide (n ∈ j.src) = false := decide_eq_false h1
  rw [hd] at HC
  have HR2 := Lib.hid (HR.out.trans (if_neg h1))
  clear h1 hd
  by_cases h2 : m = 256
  · have g2 : ((m : Int) == 256) = true := by rw [h2]; rfl
    have HR3 := Lib.hid (HR2.out.trans (if_pos (hm.trans h2)))
    clear h2 hm hfew
    go_wp2_with (go_at_call 57; (with_reducible refine HC.out.mono ?_); rintro e w2 ⟨rfl, rfl⟩)
    go_ret
    exact ⟨by rw [HR3.out]; rfl, fun h => (by rw [HR3.out] at h; cases h), HO1.out⟩
  have g2 : ((m : Int) == 256) = false := beq_eq_false_iff_ne.2 (by omega)
  have g2' : (m == 256) = false := beq_eq_false_iff_ne.2 h2
  have HR3 := Lib.hid (HR2.out.trans (if_neg (fun e => h2 (hm.symm.trans e))))
  have hE := u32sElem
  have hown := HR1.out.src
  rw [hm] at hown
  have Hown := Lib.hid hown
  have hm1 : m ≤ 256 := by omega
  clear h2 hm hfew hown
  go_wp2_with (first
    | (go_at_call 57; (with_reducible refine HC.out.mono ?_); rintro e w2 ⟨rfl, rfl⟩)
    | (at_builtin; refine wpList_app rfl (.tmp 42) (.tmp 45) 26 26 rfl hE (Hown.out.ext (ext_alloc _ _)) rfl rfl (srcOne Try.underlying26 _ _ _ _ rfl) (by simp [maxLen]; omega) (by omega) ?_; intro ao7 cap7 g7 w7 ho7 hg7 hon7; have hO7 := (Only.of_below (fp := fun k => g = some k) (ext_alloc w2 _)).trans hon7 (fun _ _ h => h); have c7 := (hO7.cell HR1.out.lt HR1.out.gn 4).trans c4; have f7 := (hO7.frozen HR1.out.lt HR1.out.gn 4).trans f4; have H7 := Lib.hid ho7; have Hg7 := Lib.hid hg7; have O7 := Lib.hid hO7; clear ho7 hg7 hon7 hO7))
  go_ret
  have h7 := H7.out
  rw [← Hm.out] at h7
  have hg : g7 = g ∨ ∀ b, g7 = some b → w2.heap.size ≤ b := by
    rcases Hg7.out with h | h
    · exact .inl h
    · exact .inr (fun b hb => by rw [h] at hb; cases hb; simp)
  have hA := HR1.out.app h7 hg O7.out
  rw [Hm.out] at hA
  refine ⟨by rw [HR3.out]; rfl, fun _ => ⟨ao7, cap7, g7, by rw [HR3.out]; exact hA, hg.imp id (fun h b hb => Nat.le_trans B1.out.size (h b hb))⟩, ?_⟩
  exact (HO1.out.trans O7.out (fun i _ h => .inr h)).setCell (fun _ => .inl rfl) _
end Go.Proofs.Ytmflopeedofkhaa

namespace Go.Proofs.Ytmflopeedofkhaa
set_option linter.unusedSimpArgs false
set_option linter.unusedVariables false
set_option maxRecDepth 100000
open Go.RowKit

/-- a word's numbers, looked up -/
theorem nums_lookup {jb jo : Nat} {w : World} {mb : Nat} {es : List MapEntry} (h : NumsAt 72 jb jo w mb es) {e : W8 × List (Nat × Nat × Nat)} (he : e ∈ numTab) :
    ∃ b, (Instr.lookup 66 (.map (some mb)) (.string (bs e.1)) false).run Try.prog w = .ok (.slice (some ⟨b, 0, none⟩) e.2.length e.2.length) w ∧ w.heap[b]? = some (.cells (numCs jb jo e.2).toArray 72 (0, 0)) := by
  obtain ⟨pre, ⟨key, val, n⟩, post, e1, e2, e3⟩ := first_key e.1 es (fun x hx => by
    obtain ⟨e', _, b, h1, _⟩ := h.each x hx
    exact ⟨_, h1⟩) (h.all e he)
  simp only at e2
  subst e2
  obtain ⟨e', he', b, h1, h2, h3⟩ := h.each ⟨.string (bs e.1), val, n⟩ (by rw [e1]; simp)
  simp only at h1 h2
  injection h1 with h1
  have := numTab_word e he e' he' (bs_inj h1)
  subst this
  subst h2
  have hm := h.map
  rw [e1] at hm
  exact ⟨b, (run_lookup_is Try.underlying66 Try.underlying9 hm e3).1, h3⟩
theorem numTab_cells : ∀ e ∈ numTab, ∀ x ∈ e.2, x.1 ∈ numCells := by decide
theorem Rdr.atN {rb mb tb : Nat} {j : JobD} {so : Option Addr} {sc : Nat} {g : Option Nat} {met : List W8} {w : World} (h : Rdr rb mb tb j so sc g met w) {c : Nat} (hc : c ∈ numCells) : w.cell? ⟨rb, c, none⟩ = some (.int .u32 (jobC j c : Nat)) := by
  refine h.at c ?_
  unfold rdrCs
  rw [Array.getElem?_append_left (by simp only [numCells, List.mem_cons, List.not_mem_nil, or_false] at hc; show c < 15; omega)]
  exact jobCs_at hc
def nrI (rb mb tb : Nat) (j : JobD) (so : Option Addr) (sc : Nat) (g : Option Nat) (met : List W8) (cs : List (Nat × Nat × Nat)) (ws : List W8) (w2 : World) (i : Value) (wr : World) : Prop :=
  ∃ (a : Nat) (j' : JobD), a ≤ cs.length ∧ i = .int .i64 (a : Nat) ∧ takeC j cs ws = takeC j' (cs.drop a) (ws.drop a) ∧ Rdr rb mb tb j' so sc g met wr ∧ Only (fun k => k = rb) w2 wr
set_option maxRecDepth 100000 in
set_option maxHeartbeats 6400000 in
theorem jnumbers_any (rb mb tb : Nat) (j : JobD) (so : Option Addr) (sc : Nat) (g : Option Nat) (met : List W8) (w : World) (H : Rdr rb mb tb j so sc g met w) (e : W8 × List (Nat × Nat × Nat)) (he : e ∈ numTab) (ws : List W8) (hlen : ws.length = e.2.length) (hws : ∀ x ∈ ws, x.length ≤ 1073741824)
    (lo : Option Addr) (lc : Nat) (hl : Rd w lo e.2.length (strCells ws)) :
    Calls Try.prog 44 #[.pointer (some ⟨rb, 0, none⟩), .string (bs e.1), .slice lo e.2.length lc] w
      (MethRet rb mb tb met (if (takeC j e.2 ws).2 ≠ 0 then takeC j e.2 ws else if (takeC j e.2 ws).1.od < (takeC j e.2 ws).1.stop then ((takeC j e.2 ws).1, 9) else ((takeC j e.2 ws).1, 0)) g w) := by
  have HNs := Lib.hid (fun W => numbers_any rb 0 W)
  obtain ⟨T, hT⟩ : ∃ T, takeC j e.2 ws = T := ⟨_, rfl⟩
  rw [hT]
  have HT := Lib.hid hT
  obtain ⟨RR, hRR⟩ : ∃ RR, (if T.2 ≠ 0 then T else if T.1.od < T.1.stop then (T.1, 9) else (T.1, 0)) = RR := ⟨_, rfl⟩
  rw [hRR]
  have HRR := Lib.hid hRR
  clear hRR
  have hcl := numTab_len e he
  have HE := Lib.hid he
  obtain ⟨k, cs⟩ := e
  simp only at hcl hlen hl hT HT ⊢
  have hpos : 0 < cs.length := by
    have : ∀ e ∈ numTab, 0 < e.2.length := by decide
    exact this _ HE.out
  obtain ⟨wb, woff, rfl, hb, hc⟩ := hl.pos hpos
  have HC := Lib.hid (show ∀ a (h : a < ws.length), w.cell? ⟨wb, woff + a, none⟩ = some (.string (bs ws[a])) from fun a h => by
    have h1 := hc a (by omega)
    rw [h1]
    simp only [strCells, List.getElem?_map, List.getElem?_eq_getElem h, Option.map_some])
  have Hb := Lib.hid (And.intro hb (H.text (b := wb) (off := woff + 0) (HC.out 0 (by omega))))
  have HR0 := Lib.hid H
  have HL := Lib.hid hlen
  have HW := Lib.hid hws
  clear H hl hc hb hT he hlen hws
  go_enter Try.func44, Try.ntmps44
  go_wp2_with (go_at_call 28; refine (HNs.out _).mono ?_; rintro e w1 ⟨nb, es, rfl, hx, hy, hz⟩; obtain ⟨b, hlk, hbk⟩ := nums_lookup hy HE.out; have HN1 := Lib.hid hy; have B1 := Lib.hid hz; have Hbk := Lib.hid hbk; clear hx hy hz hbk)
  have HR1 := Lib.hid (HR0.out.ext B1.out)
  go_loopw [18] (fun i wr => nrI rb mb tb j so sc g met cs ws w1 i wr) (fun i _ => cs.length - (intOf i).toNat)
  case atStart => exact ⟨0, j, Nat.zero_le _, rfl, rfl, HR1.out, Only.refl _ _⟩
  case round =>
    obtain ⟨a, j', ha, rfl, htk, hR, hO⟩ := hrel
    have Hfz := hR.fz
    have HTk := Lib.hid (HT.out.symm.trans htk)
    have HR := Lib.hid hR
    have HO := Lib.hid hO
    clear htk hR hO
    by_cases hlt : a < cs.length
    · have hir : (a : Int) < (cs.length : Int) := by omega
      have hla : a < ws.length := by rw [HL.out]; exact hlt
      have hbn : b ≠ rb := fun e => by
        have h1 := Hbk.out
        rw [e, HR1.out.row] at h1
        injection h1 with h1
        injection h1 with _ h1
        exact absurd h1 (by decide)
      have hwb : wr.cell? ⟨wb, woff + a, none⟩ = some (.string (bs ws[a])) := (HO.out.cell (Nat.lt_of_lt_of_le Hb.out.1 B1.out.size) Hb.out.2 _).trans (((bcell B1.out).1 _ _ Hb.out.1).trans (HC.out a hla))
      obtain ⟨c0, c1, c2⟩ := numCs_at rb 0 cs a hlt
      obtain ⟨x1, x2, x3, x4, x5, x6⟩ := numTab_small _ HE.out cs[a] (List.getElem_mem hlt)
      have hbc : ∀ i v, (numCs rb 0 cs)[i]? = some v → wr.cell? ⟨b, i, none⟩ = some v := fun i v h => by
        rw [HO.out.cell (blk_lt Hbk.out) hbn i, cell_of_row _ _ _ _ _ _ Hbk.out]
        simpa using h
      have c0 := hbc _ _ c0
      have c1 := hbc _ _ c1
      have c2 := hbc _ _ c2
      rw [Nat.zero_add] at c0
      have hnum := numTab_cells _ HE.out cs[a] (List.getElem_mem hlt)
      have HTn := Lib.hid (show T = if (numL ws[a] cs[a].2.1 cs[a].2.2).2 ≠ 0 then (j', (numL ws[a] cs[a].2.1 cs[a].2.2).2) else takeC (setC j' cs[a].1 (numL ws[a] cs[a].2.1 cs[a].2.2).1) (cs.drop (a + 1)) (ws.drop (a + 1)) by
        rw [HTk.out, ← List.getElem_cons_drop (h := hlt), ← List.getElem_cons_drop (h := hla)]; rfl)
      have hsl := HW.out ws[a] (List.getElem_mem hla)
      generalize ws[a] = s at hwb HTn hsl
      generalize cs[a] = x at c0 c1 c2 hnum HTn x5 x6
      obtain ⟨xc, lo, hi⟩ := x
      simp only at c0 c1 c2 x5 x6 hnum HTn
      have HN := Lib.hid (fun W => num_any s hi hsl (by omega) W)
      have hnl := num_lt (w := s) (most := hi)
      unfold numL at HTn
      unfold numOut at HN
      generalize num s hi = nn at HN HTn hnl
      obtain ⟨n, e0⟩ := nn
      simp only at HN HTn hnl
      have Hc := Lib.hid hnum
      have u1 : IntKind.u32.wrap (n : Int) = (n : Int) := IntWalk.u32_in _ (by omega)
      have Hxs := Lib.hid (And.intro x5 x6)
      clear hbc x1 x2 x3 x4 hla hnum hsl hnl hbn
      go_upto_region 4 with fail
      obtain ⟨wA, hwA⟩ : ∃ wA, wA = wr.alloc (.cells #[.pointer (some ⟨rb, xc, none⟩), .int .u64 (lo : Nat), .int .u64 (hi : Nat)] 72) := ⟨_, rfl⟩
      rw [← hwA]
      obtain ⟨nx, hnx⟩ : ∃ nx, nx = wr.heap.size := ⟨_, rfl⟩
      have d0 : wA.cell? ⟨nx, 0, none⟩ = some (.pointer (some ⟨rb, xc, none⟩)) := by rw [hwA, hnx, World.cell?_alloc_new]; rfl
      have d1 : wA.cell? ⟨nx, 1, none⟩ = some (.int .u64 (lo : Nat)) := by rw [hwA, hnx, World.cell?_alloc_new]; rfl
      have d2 : wA.cell? ⟨nx, 2, none⟩ = some (.int .u64 (hi : Nat)) := by rw [hwA, hnx, World.cell?_alloc_new]; rfl
      have HBA := Lib.hid (show Below wr.heap.size wr wA by rw [hwA]; exact ext_alloc wr _)
      have hwbA : wA.cell? ⟨wb, woff + a, none⟩ = some (.string (bs s)) := ((bcell HBA.out).1 _ _ (World.block_lt_of_cell? wr _ hwb)).trans hwb
      have Hnx := Lib.hid (show wr.heap.size ≤ nx ∧ nx < wA.heap.size by rw [hnx, hwA]; simp)
      rw [← hnx]
      clear hwA c0 c1 c2 hwb hnx
      have P1 := Lib.hid (And.intro hwbA d2)
      have D01 := Lib.hid (And.intro d0 d1)
      clear d0 d1
      go_region_held3 (fun w' => w'.cell? ⟨wb, woff + a, none⟩ = some (.string (bs s)) ∧ w'.cell? ⟨nx, 2, none⟩ = some (.int .u64 (hi : Nat)))
        (first | exact P1.out | exact P2.out)
        (first
          | (go_at_call 56; refine (HN.out _).mono ?_; rintro e w3 ⟨rfl, hx⟩; have hB3 := (ext_drew wA).trans hx; have P2 := Lib.hid (And.intro (((bcell hB3).1 _ _ (World.block_lt_of_cell? wA _ hwbA)).trans hwbA) (((bcell hB3).1 _ _ Hnx.out.2).trans d2)); have B3 := Lib.hid hB3; clear hx hB3)
          | fail "no arm")
      have B13 := Lib.hid ((HBA.out.trans (B3.out.mono HBA.out.size)))
      have HR3 := Lib.hid (HR.out.ext B13.out)
      have HO3 := Lib.hid (HO.out.ext B13.out)
      have d0 : w3.cell? ⟨nx, 0, none⟩ = some (.pointer (some ⟨rb, xc, none⟩)) := ((bcell B3.out).1 _ _ Hnx.out.2).trans D01.out.1
      have d1 : w3.cell? ⟨nx, 1, none⟩ = some (.int .u64 (lo : Nat)) := ((bcell B3.out).1 _ _ Hnx.out.2).trans D01.out.2
      have HOw := Lib.hid ((Only.of_below B1.out).trans HO3.out (fp := fun k => k = rb ∨ g = some k) (fun i _ h => .inl h))
      clear hwbA d2 P1 P2 D01
      by_cases he : e0 ≠ 0
      · have y1 : ((e0 : Int) != 0) = true := by simp; omega
        have y1' : (e0 != 0) = true := by simp; omega
        have y2 : ((e0 : Int) == 0) = false := beq_eq_false_iff_ne.2 (by omega)
        have y2' : (e0 == 0) = false := beq_eq_false_iff_ne.2 he
        have hT : T = (j', e0) := by rw [HTn.out, if_neg (show ¬ (e0 = 0 ∧ n < lo) from fun h => he h.1)]; exact if_pos he
        have HR4 := Lib.hid (show RR = (j', e0) ∧ e0 ≠ 0 from ⟨by rw [← HRR.out, hT]; exact if_pos he, he⟩)
        clear he hT
        go_wp2_with fail
        go_ret
        exact ⟨by rw [HR4.out.1]; rfl, fun h => (by rw [HR4.out.1] at h; exact absurd h HR4.out.2), HOw.out⟩
      have he0 : e0 = 0 := Decidable.of_not_not he
      subst he0
      clear he
      by_cases hnl : n < lo
      · have y1 : decide ((n : Int) < (lo : Int)) = true := decide_eq_true (by omega)
        have y1' : decide (n < lo) = true := decide_eq_true hnl
        have hT : T = (j', 9) := by rw [HTn.out, if_pos (show 0 = 0 ∧ n < lo from ⟨rfl, hnl⟩)]; rfl
        have HR4 := Lib.hid (show RR = (j', 9) by rw [← HRR.out, hT]; rfl)
        clear hT hnl
        go_wp2_with fail
        go_ret
        exact ⟨by rw [HR4.out]; rfl, fun h => (by rw [HR4.out] at h; cases h), HOw.out⟩
      · have y1 : decide ((n : Int) < (lo : Int)) = false := decide_eq_false (by omega)
        have y1' : decide (n < lo) = false := decide_eq_false hnl
        have HT2 := Lib.hid (show T = takeC (setC j' xc n) (cs.drop (a + 1)) (ws.drop (a + 1)) by rw [HTn.out, if_neg (show ¬ (0 = 0 ∧ n < lo) from fun h => hnl h.2)]; rfl)
        have k0 := HR3.out.atN Hc.out
        have k3 := HR3.out.fz xc
        generalize jobC j' xc = o1 at k0
        clear hnl
        go_wp2_with fail
        go_roundw
        case rel => exact ⟨a + 1, setC j' xc n, by omega, by go_num, HT.out.trans HT2.out, HR3.out.num Hc.out n, HO3.out.setCell (fun _ => rfl) _⟩
        case measure => simp [intOf]; omega
    · obtain rfl : a = cs.length := by omega
      have hT : T = (j', 0) := by rw [HTk.out, List.drop_length]; unfold takeC; rfl
      have HOw := Lib.hid ((Only.of_below B1.out).trans HO.out (fp := fun k => k = rb ∨ g = some k) (fun i _ h => .inl h))
      have c5 := HR.out.atN (c := 5) (by decide)
      have c6 := HR.out.atN (c := 6) (by decide)
      have HR5 := Lib.hid (show RR = if j'.od < j'.stop then (j', 9) else (j', 0) by rw [← HRR.out, hT]; rfl)
      clear hT hlt hlk hpos
      simp only [jobC] at c5 c6
      by_cases ho : j'.od < j'.stop
      · have y1 : decide ((j'.od : Int) < (j'.stop : Int)) = true := decide_eq_true (by omega)
        have y1' : decide (j'.od < j'.stop) = true := decide_eq_true ho
        have HR6 := Lib.hid (HR5.out.trans (if_pos ho))
        generalize j'.od = od at c6 y1 y1'
        generalize j'.stop = st at c5 y1 y1'
        clear ho
        go_wp2_with fail
        go_quiet (fail)
        go_wp2_with fail
        go_ret
        exact ⟨by rw [HR6.out]; rfl, fun h => (by rw [HR6.out] at h; cases h), HOw.out.drewN _⟩
      · have y1 : decide ((j'.od : Int) < (j'.stop : Int)) = false := decide_eq_false (by omega)
        have y1' : decide (j'.od < j'.stop) = false := decide_eq_false ho
        have HR6 := Lib.hid (HR5.out.trans (if_neg ho))
        generalize j'.od = od at c6 y1 y1'
        generalize j'.stop = st at c5 y1 y1'
        clear ho
        go_wp2_with fail
        go_quiet (fail)
        go_wp2_with fail
        go_ret
        exact ⟨by rw [HR6.out]; rfl, fun _ => ⟨so, sc, g, by rw [HR6.out]; exact HR.out.ext (ext_drewN _ _), .inl rfl⟩, HOw.out.drewN _⟩
end Go.Proofs.Ytmflopeedofkhaa

namespace Go.Proofs.Ytmflopeedofkhaa
set_option linter.unusedSimpArgs false
set_option linter.unusedVariables false
set_option maxRecDepth 100000
open Go.RowKit

theorem map_cell_ne {w : World} {mb : Nat} {f : W8 → Option Value} (h : MapFn w mb f) {b off : Nat} {v : Value} (hc : w.cell? ⟨b, off, none⟩ = some v) : b ≠ mb := fun e => by
  obtain ⟨es, clk, h1, _⟩ := h
  unfold MapIs at h1
  rw [e] at hc
  simp [World.cell?, h1] at hc
theorem take_look {w : World} {tb rb : Nat} (h : MapFn w tb (takeF rb)) (k : W8) : (Instr.lookup 58 (.map (some tb)) (.string (bs k)) true).run Try.prog w = .ok (.tuple #[(takeF rb k).getD (.agg #[.int .i64 0, .nilFunc]), .bool (takeF rb k).isSome]) w :=
  (run_lookup_fn Try.underlying58 Try.underlying9 Try.zeroValue86 h k).2
theorem met_look {w : World} {mb : Nat} {met : List W8} (h : MapFn w mb (metF met)) (k : W8) : (Instr.lookup 57 (.map (some mb)) (.string (bs k)) true).run Try.prog w = .ok (.tuple #[.agg #[], .bool (decide (k ∈ met))]) w := by
  rw [(run_lookup_fn Try.underlying57 Try.underlying9 Try.zeroValue92 h k).2]
  unfold metF
  by_cases hk : k ∈ met
  · rw [if_pos hk]; simp [hk]
  · rw [if_neg hk]; simp [hk]
theorem wants_pos {k : W8} (h : entryJ k ≠ []) : 0 < (entryJ k).length := List.length_pos_iff.2 h
/-- the line's function -/
def takeFn (k : W8) : Nat := if k = kWalk then 41 else if k = kSeed then 42 else if k = kSource then 43 else 44
theorem take_none {rb : Nat} {k : W8} (h : wantsJ k = 0) : takeF rb k = none := by
  unfold wantsJ at h
  split at h
  · cases h
  · rename_i h1
    unfold takeF
    rw [if_neg (fun e => h1 (.inl e)), if_neg (fun e => h1 (.inr (.inl e))), if_neg (fun e => h1 (.inr (.inr e))), if_pos (List.eq_nil_of_length_eq_zero h)]
theorem take_some {rb : Nat} {k : W8} (h : wantsJ k ≠ 0) : takeF rb k = some (takeV rb (wantsJ k) (takeFn k)) := by
  unfold takeF takeFn wantsJ
  unfold wantsJ at h
  by_cases h1 : k = kWalk
  · subst h1; simp
  by_cases h2 : k = kSeed
  · subst h2; simp [h1]
  by_cases h3 : k = kSource
  · subst h3; simp [h1, h2]
  · rw [if_neg (by simp [h1, h2, h3])] at h
    have h4 : entryJ k ≠ [] := fun e => h (by rw [e]; rfl)
    simp [h1, h2, h3, h4]
theorem metF_add (met : List W8) (k : W8) : updF (metF met) k (.agg #[]) = metF (met ++ [k]) := by
  funext s
  unfold updF metF
  by_cases h : s = k
  · rw [if_pos h, if_pos (by rw [h]; simp)]
  · rw [if_neg h]
    by_cases h2 : s ∈ met
    · rw [if_pos h2, if_pos (by simp [h2])]
    · rw [if_neg h2, if_neg (by simp [h2, h])]
theorem Rdr.meet {rb mb tb : Nat} {j : JobD} {so : Option Addr} {sc : Nat} {g : Option Nat} {met : List W8} {w w' : World} (h : Rdr rb mb tb j so sc g met w) {k : W8} (hm : MapFn w' mb (updF (metF met) k (.agg #[]))) (ho : Only (fun b => b = mb) w w') : Rdr rb mb tb j so sc g (met ++ [k]) w' :=
  ⟨(ho.same _ h.lt (fun e => map_ne h.met h.row e.symm)).trans h.row, h.src.only ho (fun b hb e => own_ne h.met h.src (by rw [hb, e])), by rw [← metF_add]; exact hm, h.tak.only ho (fun e => h.mt e.symm), h.gn, h.mt⟩
def LineMet (rb mb tb : Nat) (met : List W8) (r : JobD × Nat) (g : Option Nat) (w : World) (e : Ending) (w' : World) : Prop :=
  e = .returned (.int .i64 (r.2 : Nat)) ∧ (r.2 = 0 → ∃ so sc g', Rdr rb mb tb r.1 so sc g' met w' ∧ (g' = g ∨ ∀ b, g' = some b → w.heap.size ≤ b)) ∧ Only (fun k => k = rb ∨ k = mb ∨ g = some k) w w'
theorem two_one {a b : Value} (h1 : a.oneCell' = true) (h2 : b.oneCell' = true) : (#[a, b] : Array Value).all (·.oneCell') = true :=
  Array.all_eq_true_iff_forall_mem.2 fun x hx => by
    simp only [List.mem_toArray, List.mem_cons, List.not_mem_nil, or_false] at hx
    rcases hx with rfl | rfl
    · exact h1
    · exact h2
theorem take_gen (rb : Nat) (k : W8) : ∃ fv kn, (takeF rb k).getD (.agg #[.int .i64 0, .nilFunc]) = .agg #[.int .i64 (wantsJ k : Nat), fv] ∧ (takeF rb k).isSome = kn ∧ fv.oneCell' = true ∧
    ((wantsJ k = 0 ∧ kn = false) ∨ (wantsJ k ≠ 0 ∧ kn = true ∧ fv = .func (.func (takeFn k)) #[.pointer (some ⟨rb, 0, none⟩)] #[])) := by
  by_cases h : wantsJ k = 0
  · rw [take_none h, h]
    exact ⟨.nilFunc, false, rfl, rfl, rfl, .inl ⟨rfl, rfl⟩⟩
  · rw [take_some h]
    exact ⟨_, true, rfl, rfl, rfl, .inr ⟨h, rfl, rfl⟩⟩
set_option maxRecDepth 100000 in
set_option maxHeartbeats 6400000 in
theorem jline_any (rb mb tb : Nat) (j : JobD) (hfew : j.src.length ≤ 256) (so : Option Addr) (sc : Nat) (g : Option Nat) (met : List W8) (w : World) (H : Rdr rb mb tb j so sc g met w) (k : W8) (ws : List W8) (hws : ∀ x ∈ ws, x.length ≤ 1073741824) (hsz : ws.length ≤ 1073741824)
    (lo : Option Addr) (lc : Nat) (hlc : ws.length + 1 ≤ lc) (hcm : lc ≤ maxLen) (hl : Rd w lo (ws.length + 1) (strCells (k :: ws))) (hbg : ∀ q o, lo = some ⟨q, o, none⟩ → g ≠ some q) :
    Calls Try.prog 23 #[.pointer (some ⟨rb, 0, none⟩), .slice lo (ws.length + 1) lc] w (LineMet rb mb tb (met ++ [k]) (lineJ j met k ws) g w) := by
  obtain ⟨RR, hRR⟩ : ∃ RR, lineJ j met k ws = RR := ⟨_, rfl⟩
  rw [hRR]
  unfold lineJ at hRR
  obtain ⟨b, off, rfl, hb, hc⟩ := hl.pos (by omega)
  have c0 : w.cell? ⟨b, off, none⟩ = some (.string (bs k)) := by
    exact (hc 0 (by omega)).trans rfl
  have Hl := Lib.hid hl
  have HNE := Lib.hid (show ¬ (w.heap.size = rb ∨ g = some w.heap.size) ∧ ¬ (b = rb ∨ g = some b) from ⟨fun h => h.elim (fun e => by have := H.lt; omega) (fun e => by have := H.src.lt _ e; omega), fun h => h.elim (H.text c0) (hbg b off rfl)⟩)
  have Hb := Lib.hid hb
  have HR0 := Lib.hid H
  have HRR := Lib.hid hRR
  have r16 := H.at 16 (v := .map (some tb)) rfl
  obtain ⟨fv, kn, hfv, hkn, hone, hcase⟩ := take_gen rb k
  have HS1 := Lib.hid (show ∀ W, Below w.heap.size w W → W.cell? ⟨rb, 16, none⟩ = some (.map (some tb)) ∧ W.cell? ⟨b, off, none⟩ = some (.string (bs k)) ∧ (Instr.lookup 58 (.map (some tb)) (.string (bs k)) true).run Try.prog W = .ok (.tuple #[.agg #[.int .i64 (wantsJ k : Nat), fv], .bool kn]) W from
    fun W hB => ⟨((bcell hB).1 _ _ H.lt).trans r16, ((bcell hB).1 _ _ hb).trans c0, by rw [← hfv, ← hkn]; exact take_look (H.tak.ext hB) k⟩)
  have Hcase := Lib.hid hcase
  have Hone := Lib.hid hone
  generalize hn : wantsJ k = n at *
  have Hn := Lib.hid hn
  clear hl hc hb H hbg hRR hfv hkn hcase hone hn
  have hir0 : (0 : Int) < ((ws.length + 1 : Nat) : Int) := by omega
  go_enter Try.func23, Try.ntmps23
  go_upto_region 1 with fail
  refine wp_region_held (S := fun W => W.cell? ⟨rb, 16, none⟩ = some (.map (some tb)) ∧ W.cell? ⟨b, off, none⟩ = some (.string (bs k)) ∧ (Instr.lookup 58 (.map (some tb)) (.string (bs k)) true).run Try.prog W = .ok (.tuple #[.agg #[.int .i64 (n : Nat), fv], .bool kn]) W) (by kernel_rfl) ?_
  have hS0 := HS1.out _ (ext_drew w)
  change wpAnyH _ _ _ _ _ _ _ _ (World.drew _)
  refine wpAnyH_take (i := 0) (oi := ⟨some 10, _, _, _, _, _⟩) (v := ?_) rfl (by kernel_rfl) (by kernel_rfl) (by kernel_rfl) (fun _ _ _ h => h) (Or.inl ⟨by rfl, ?_⟩) hS0 ?_
  rotate_left
  · (intro w' hSw; obtain ⟨s0, s1, s2⟩ := hSw; go_simp; try (with_reducible rfl))
  simp only [Act.put, List.setIfInBounds_toArray, List.set_cons_zero, List.set_cons_succ]
  refine wpAnyH_take (i := 1) (oi := ⟨some 11, _, _, _, _, _⟩) (v := ?_) rfl (by kernel_rfl) (by kernel_rfl) (by kernel_rfl) (fun _ _ _ h => h) (Or.inl ⟨by rfl, ?_⟩) hS0 ?_
  rotate_left
  · (intro w' hSw; obtain ⟨s0, s1, s2⟩ := hSw; go_simp; try (with_reducible rfl))
  simp only [Act.put, List.setIfInBounds_toArray, List.set_cons_zero, List.set_cons_succ]
  refine wpAnyH_take (i := 2) (oi := ⟨some 12, _, _, _, _, _⟩) (v := ?_) rfl (by kernel_rfl) (by kernel_rfl) (by kernel_rfl) (fun _ _ _ h => h) (Or.inl ⟨by rfl, ?_⟩) hS0 ?_
  rotate_left
  · (intro w' hSw; obtain ⟨s0, s1, s2⟩ := hSw; go_simp; try (with_reducible rfl))
  simp only [Act.put, List.setIfInBounds_toArray, List.set_cons_zero, List.set_cons_succ]
  refine wpAnyH_take (i := 3) (oi := ⟨some 13, _, _, _, _, _⟩) (v := ?_) rfl (by kernel_rfl) (by kernel_rfl) (by kernel_rfl) (fun _ _ _ h => h) (Or.inl ⟨by rfl, ?_⟩) hS0 ?_
  rotate_left
  · (intro w' hSw; obtain ⟨s0, s1, s2⟩ := hSw; go_simp; try (with_reducible rfl))
  simp only [Act.put, List.setIfInBounds_toArray, List.set_cons_zero, List.set_cons_succ]
  refine wpAnyH_take (i := 4) (oi := ⟨some 14, _, _, _, _, _⟩) (v := ?_) rfl (by kernel_rfl) (by kernel_rfl) (by kernel_rfl) (fun _ _ _ h => h) (Or.inl ⟨by rfl, ?_⟩) hS0 ?_
  rotate_left
  · (intro w' hSw; obtain ⟨s0, s1, s2⟩ := hSw; go_simp; try (with_reducible rfl))
  simp only [Act.put, List.setIfInBounds_toArray, List.set_cons_zero, List.set_cons_succ]
  refine wpAnyH_take (i := 5) (oi := ⟨some 15, _, _, _, _, _⟩) (v := ?_) rfl (by kernel_rfl) (by kernel_rfl) (by kernel_rfl) (fun _ _ _ h => h) (Or.inl ⟨by rfl, ?_⟩) hS0 ?_
  rotate_left
  · (intro w' hSw; obtain ⟨s0, s1, s2⟩ := hSw; go_simp; try (with_reducible rfl))
  simp only [Act.put, List.setIfInBounds_toArray, List.set_cons_zero, List.set_cons_succ]
  refine wpAnyH_take (i := 6) (oi := ⟨some 16, _, _, _, _, _⟩) (v := ?_) rfl (by kernel_rfl) (by kernel_rfl) (by kernel_rfl) (fun _ _ _ h => h) (Or.inl ⟨by rfl, ?_⟩) hS0 ?_
  rotate_left
  · (intro w' hSw; obtain ⟨s0, s1, s2⟩ := hSw; go_simp; try (with_reducible rfl))
  simp only [Act.put, List.setIfInBounds_toArray, List.set_cons_zero, List.set_cons_succ]
  refine wpAnyH_take (i := 7) (oi := ⟨some 17, _, _, _, _, _⟩) (v := ?_) rfl (by kernel_rfl) (by kernel_rfl) (by kernel_rfl) (fun _ _ _ h => h) (Or.inl ⟨by rfl, ?_⟩) hS0 ?_
  rotate_left
  · (intro w' hSw; obtain ⟨s0, s1, s2⟩ := hSw; go_simp; try (with_reducible rfl))
  simp only [Act.put, List.setIfInBounds_toArray, List.set_cons_zero, List.set_cons_succ]
  refine wpAnyH_take (i := 8) (oi := ⟨some 9, _, _, _, _, _⟩) (v := ?_) rfl (by kernel_rfl) (by kernel_rfl) (by kernel_rfl) (fun _ _ _ h => h) (Or.inl ⟨by rfl, ?_⟩) hS0 ?_
  rotate_left
  · (intro w' hSw; obtain ⟨s0, s1, s2⟩ := hSw; go_simp; try (with_reducible rfl))
  simp only [Act.put, List.setIfInBounds_toArray, List.set_cons_zero, List.set_cons_succ]
  refine wpAnyH_take (i := 9) (oi := ⟨some 18, _, _, _, _, _⟩) (v := ?_) rfl (by kernel_rfl) (by kernel_rfl) (by kernel_rfl) (fun _ _ _ h => h) (Or.inl ⟨by rfl, ?_⟩) hS0 ?_
  rotate_left
  · (intro w' hSw; obtain ⟨s0, s1, s2⟩ := hSw; go_simp; try (with_reducible rfl))
  simp only [Act.put, List.setIfInBounds_toArray, List.set_cons_zero, List.set_cons_succ]
  refine wpAnyH_take (i := 10) (oi := ⟨some 19, _, _, _, _, _⟩) (v := ?_) rfl (by kernel_rfl) (by kernel_rfl) (by kernel_rfl) (fun _ _ _ h => h) (Or.inl ⟨by rfl, ?_⟩) hS0 ?_
  rotate_left
  · (intro w' hSw; obtain ⟨s0, s1, s2⟩ := hSw; go_simp; try (with_reducible rfl))
  simp only [Act.put, List.setIfInBounds_toArray, List.set_cons_zero, List.set_cons_succ]
  refine wpAnyH_all (rs := [11]) (by kernel_rfl) (by simp) ?_
  intro i hi
  rw [List.mem_singleton] at hi
  subst hi
  refine wpOp_runG (o := ⟨some 5, _, _, _, _, _⟩) rfl rfl fun K' hK => ?_
  go_simp
  have B1 := (ext_drew w).alloc (by simp) (.cells #[.int .i64 0, .nilFunc] 86)
  refine hK _ _ ⟨HS1.out _ B1, ?_⟩
  clear hK K' hS0
  have hS0 := HS1.out _ B1
  have hg1 := heap_alloc_new w.drew (.cells #[.int .i64 0, .nilFunc] 86)
  have HB1 := Lib.hid B1
  have Hg1 := Lib.hid hg1
  clear B1 hg1
  refine wpAnyH_all (rs := [12]) (by kernel_rfl) (by simp) ?_
  intro i hi
  rw [List.mem_singleton] at hi
  subst hi
  refine wpOp_runG (o := ⟨none, _, _, _, _, _⟩) rfl rfl fun K' hK => ?_
  refine wp_store_rowG _ _ _ rfl (b := w.heap.size) rfl rfl Hg1.out rfl (by kernel_rfl) (two_one rfl Hone.out) ?_
  intro w3 h5 h6
  have B3 := HB1.out.trans (h6.below (by simp) (fun k hk e => by omega))
  refine hK _ _ ⟨HS1.out _ B3, ?_⟩
  clear hK K' hS0
  have hS0 := HS1.out _ B3
  have G3 := Lib.hid h5
  have HB3 := Lib.hid B3
  clear h5 h6 B3
  try simp only [Act.put, List.setIfInBounds_toArray, List.set_cons_zero, List.set_cons_succ]
  refine wpAnyH_take (i := 13) (oi := ⟨some 6, _, _, _, _, _⟩) (v := ?_) rfl (by kernel_rfl) (by kernel_rfl) (by kernel_rfl) (fun _ _ _ h => h) (Or.inl ⟨by rfl, ?_⟩) hS0 ?_
  rotate_left
  · (intro w' hSw; obtain ⟨s0, s1, s2⟩ := hSw; go_simp; try (with_reducible rfl))
  simp only [Act.put, List.setIfInBounds_toArray, List.set_cons_zero, List.set_cons_succ]
  refine wpAnyH_done (by kernel_rfl) ?_ _
  obtain ⟨nt, hnt⟩ : ∃ nt, nt = w.heap.size := ⟨_, rfl⟩
  rw [← hnt] at G3 HNE ⊢
  have Hnt := Lib.hid hnt
  have t0 : w3.cell? ⟨nt, 0, none⟩ = some (.int .i64 (n : Nat)) := (cell_of_row _ _ _ _ _ _ G3.out).trans rfl
  have t1 : w3.cell? ⟨nt, 1, none⟩ = some fv := (cell_of_row _ _ _ _ _ _ G3.out).trans rfl
  have c1 := hS0.2.1
  have hw1 : IntKind.i64.wrap (((ws.length + 1 : Nat) : Int) - 1) = (ws.length : Int) := by
    rw [show ((ws.length + 1 : Nat) : Int) - 1 = (ws.length : Int) by omega]
    exact IntWalk.i64_in _ (by omega)
  have HW := Lib.hid (And.intro hws hsz)
  have HLc := Lib.hid (And.intro hlc hcm)
  have c0' := Lib.hid c0
  clear hnt hS0 HB1 Hg1 c0 r16 hws hlc hcm
  rcases Hcase.out with ⟨h0, rfl⟩ | ⟨h0, rfl, rfl⟩
  · have HR := Lib.hid (show RR = (j, 12) by rw [← HRR.out, if_pos (.inl h0)])
    clear h0 HRR hw1
    generalize ((ws.length + 1 : Nat) : Int) = lw at *
    go_wp2_with fail
    go_ret
    exact ⟨by rw [HR.out]; rfl, fun h => (by rw [HR.out] at h; cases h), Only.of_below HB3.out⟩
  by_cases h1 : n ≠ ws.length
  · have HR := Lib.hid (show RR = (j, 12) by rw [← HRR.out, if_pos (.inr h1)])
    have d1 : ((ws.length : Int) != (n : Int)) = true := by simp; omega
    have d1' : (ws.length != n) = true := by simp; omega
    clear h0 HRR h1
    generalize hlw : ((ws.length + 1 : Nat) : Int) = lw at *
    have Hlw := Lib.hid hlw
    clear hlw
    generalize ws.length = m at *
    go_wp2_with fail
    go_ret
    exact ⟨by rw [HR.out]; rfl, fun h => (by rw [HR.out] at h; cases h), Only.of_below HB3.out⟩
  have hwl : n = ws.length := Decidable.of_not_not h1
  have HR1 := Lib.hid (show (if k ∈ met ∧ k ≠ kSource then (j, 13) else if k = kWalk then walkJ j ws[0]! else if k = kSeed then seedJ j ws[0]! else if k = kSource then sourceJ j ws[0]! else numsJ j k ws) = RR by rw [← HRR.out]; exact (if_neg (show ¬ (n = 0 ∨ n ≠ ws.length) by omega)).symm)
  have d1 : ((ws.length : Int) != (n : Int)) = false := by simp; omega
  have d1' : (ws.length != n) = false := by simp; omega
  have Hwl := Lib.hid (And.intro hwl h0)
  clear h0 h1 HRR hwl
  have HR3 := Lib.hid (HR0.out.ext HB3.out)
  have r15 := HR3.out.at 15 (v := .map (some mb)) rfl
  have HS4 := Lib.hid (show ∀ W, Below w3.heap.size w3 W → W.cell? ⟨rb, 15, none⟩ = some (.map (some mb)) ∧ W.cell? ⟨b, off, none⟩ = some (.string (bs k)) ∧ (Instr.lookup 57 (.map (some mb)) (.string (bs k)) true).run Try.prog W = .ok (.tuple #[.agg #[], .bool (decide (k ∈ met))]) W from
    fun W hB => ⟨((bcell hB).1 _ _ HR3.out.lt).trans r15, ((bcell hB).1 _ _ (World.block_lt_of_cell? w3 _ c1)).trans c1, met_look (HR3.out.met.ext hB) k⟩)
  obtain ⟨dm, hdm⟩ : ∃ dm, decide (k ∈ met) = dm := ⟨_, rfl⟩
  rw [hdm] at HS4
  have Hdm := Lib.hid hdm
  clear hdm r15
  go_upto_region 4 with fail
  refine wp_region_held (S := fun W => W.cell? ⟨rb, 15, none⟩ = some (.map (some mb)) ∧ W.cell? ⟨b, off, none⟩ = some (.string (bs k)) ∧ (Instr.lookup 57 (.map (some mb)) (.string (bs k)) true).run Try.prog W = .ok (.tuple #[.agg #[], .bool dm]) W) (by kernel_rfl) ?_
  have hS0 := HS4.out _ (ext_drew w3)
  change wpAnyH _ _ _ _ _ _ _ _ (World.drew _)
  refine wpAnyH_take (i := 0) (oi := ⟨some 31, _, _, _, _, _⟩) (v := ?_) rfl (by kernel_rfl) (by kernel_rfl) (by kernel_rfl) (fun _ _ _ h => h) (Or.inl ⟨by rfl, ?_⟩) hS0 ?_
  rotate_left
  · (intro w' hSw; obtain ⟨s0, s1, s2⟩ := hSw; go_simp; try (with_reducible rfl))
  simp only [Act.put, List.setIfInBounds_toArray, List.set_cons_zero, List.set_cons_succ]
  refine wpAnyH_take (i := 1) (oi := ⟨some 32, _, _, _, _, _⟩) (v := ?_) rfl (by kernel_rfl) (by kernel_rfl) (by kernel_rfl) (fun _ _ _ h => h) (Or.inl ⟨by rfl, ?_⟩) hS0 ?_
  rotate_left
  · (intro w' hSw; obtain ⟨s0, s1, s2⟩ := hSw; go_simp; try (with_reducible rfl))
  simp only [Act.put, List.setIfInBounds_toArray, List.set_cons_zero, List.set_cons_succ]
  refine wpAnyH_take (i := 2) (oi := ⟨some 33, _, _, _, _, _⟩) (v := ?_) rfl (by kernel_rfl) (by kernel_rfl) (by kernel_rfl) (fun _ _ _ h => h) (Or.inl ⟨by rfl, ?_⟩) hS0 ?_
  rotate_left
  · (intro w' hSw; obtain ⟨s0, s1, s2⟩ := hSw; go_simp; try (with_reducible rfl))
  simp only [Act.put, List.setIfInBounds_toArray, List.set_cons_zero, List.set_cons_succ]
  refine wpAnyH_take (i := 3) (oi := ⟨some 34, _, _, _, _, _⟩) (v := ?_) rfl (by kernel_rfl) (by kernel_rfl) (by kernel_rfl) (fun _ _ _ h => h) (Or.inl ⟨by rfl, ?_⟩) hS0 ?_
  rotate_left
  · (intro w' hSw; obtain ⟨s0, s1, s2⟩ := hSw; go_simp; try (with_reducible rfl))
  simp only [Act.put, List.setIfInBounds_toArray, List.set_cons_zero, List.set_cons_succ]
  refine wpAnyH_take (i := 4) (oi := ⟨some 35, _, _, _, _, _⟩) (v := ?_) rfl (by kernel_rfl) (by kernel_rfl) (by kernel_rfl) (fun _ _ _ h => h) (Or.inl ⟨by rfl, ?_⟩) hS0 ?_
  rotate_left
  · (intro w' hSw; obtain ⟨s0, s1, s2⟩ := hSw; go_simp; try (with_reducible rfl))
  simp only [Act.put, List.setIfInBounds_toArray, List.set_cons_zero, List.set_cons_succ]
  refine wpAnyH_take (i := 5) (oi := ⟨some 36, _, _, _, _, _⟩) (v := ?_) rfl (by kernel_rfl) (by kernel_rfl) (by kernel_rfl) (fun _ _ _ h => h) (Or.inl ⟨by rfl, ?_⟩) hS0 ?_
  rotate_left
  · (intro w' hSw; obtain ⟨s0, s1, s2⟩ := hSw; go_simp; try (with_reducible rfl))
  simp only [Act.put, List.setIfInBounds_toArray, List.set_cons_zero, List.set_cons_succ]
  refine wpAnyH_take (i := 6) (oi := ⟨some 37, _, _, _, _, _⟩) (v := ?_) rfl (by kernel_rfl) (by kernel_rfl) (by kernel_rfl) (fun _ _ _ h => h) (Or.inl ⟨by rfl, ?_⟩) hS0 ?_
  rotate_left
  · (intro w' hSw; obtain ⟨s0, s1, s2⟩ := hSw; go_simp; try (with_reducible rfl))
  simp only [Act.put, List.setIfInBounds_toArray, List.set_cons_zero, List.set_cons_succ]
  refine wpAnyH_take (i := 7) (oi := ⟨some 38, _, _, _, _, _⟩) (v := ?_) rfl (by kernel_rfl) (by kernel_rfl) (by kernel_rfl) (fun _ _ _ h => h) (Or.inl ⟨by rfl, ?_⟩) hS0 ?_
  rotate_left
  · (intro w' hSw; obtain ⟨s0, s1, s2⟩ := hSw; go_simp; try (with_reducible rfl))
  simp only [Act.put, List.setIfInBounds_toArray, List.set_cons_zero, List.set_cons_succ]
  refine wpAnyH_take (i := 8) (oi := ⟨some 30, _, _, _, _, _⟩) (v := ?_) rfl (by kernel_rfl) (by kernel_rfl) (by kernel_rfl) (fun _ _ _ h => h) (Or.inl ⟨by rfl, ?_⟩) hS0 ?_
  rotate_left
  · (intro w' hSw; obtain ⟨s0, s1, s2⟩ := hSw; go_simp; try (with_reducible rfl))
  simp only [Act.put, List.setIfInBounds_toArray, List.set_cons_zero, List.set_cons_succ]
  refine wpAnyH_take (i := 9) (oi := ⟨some 39, _, _, _, _, _⟩) (v := ?_) rfl (by kernel_rfl) (by kernel_rfl) (by kernel_rfl) (fun _ _ _ h => h) (Or.inl ⟨by rfl, ?_⟩) hS0 ?_
  rotate_left
  · (intro w' hSw; obtain ⟨s0, s1, s2⟩ := hSw; go_simp; try (with_reducible rfl))
  simp only [Act.put, List.setIfInBounds_toArray, List.set_cons_zero, List.set_cons_succ]
  refine wpAnyH_take (i := 10) (oi := ⟨some 40, _, _, _, _, _⟩) (v := ?_) rfl (by kernel_rfl) (by kernel_rfl) (by kernel_rfl) (fun _ _ _ h => h) (Or.inl ⟨by rfl, ?_⟩) hS0 ?_
  rotate_left
  · (intro w' hSw; obtain ⟨s0, s1, s2⟩ := hSw; go_simp; try (with_reducible rfl))
  simp only [Act.put, List.setIfInBounds_toArray, List.set_cons_zero, List.set_cons_succ]
  refine wpAnyH_all (rs := [11]) (by kernel_rfl) (by simp) ?_
  intro i hi
  rw [List.mem_singleton] at hi
  subst hi
  refine wpOp_runG (o := ⟨some 7, _, _, _, _, _⟩) rfl rfl fun K' hK => ?_
  go_simp
  have B1 := (ext_drew w3).alloc (by simp) (.cells #[] 92)
  refine hK _ _ ⟨HS4.out _ B1, ?_⟩
  clear hK K' hS0
  have hS0 := HS4.out _ B1
  have hg1 := heap_alloc_new w3.drew (.cells #[] 92)
  have HB1 := Lib.hid B1
  have Hg1 := Lib.hid hg1
  clear B1 hg1
  refine wpAnyH_all (rs := [12]) (by kernel_rfl) (by simp) ?_
  intro i hi
  rw [List.mem_singleton] at hi
  subst hi
  refine wpOp_runG (o := ⟨none, _, _, _, _, _⟩) rfl rfl fun K' hK => ?_
  refine wp_store_rowG _ _ _ rfl (b := w3.heap.size) rfl rfl Hg1.out rfl (by kernel_rfl) (by simp) ?_
  intro w4 h5 h6
  have B4 := HB1.out.trans (h6.below (by simp) (fun k hk e => by omega))
  refine hK _ _ ⟨HS4.out _ B4, ?_⟩
  clear hK K' hS0
  have hS0 := HS4.out _ B4
  have HB4 := Lib.hid B4
  clear h5 h6 B4
  try simp only [Act.put, List.setIfInBounds_toArray, List.set_cons_zero, List.set_cons_succ]
  refine wpAnyH_take (i := 13) (oi := ⟨some 8, _, _, _, _, _⟩) (v := ?_) rfl (by kernel_rfl) (by kernel_rfl) (by kernel_rfl) (fun _ _ _ h => h) (Or.inl ⟨by rfl, ?_⟩) hS0 ?_
  rotate_left
  · (intro w' hSw; obtain ⟨s0, s1, s2⟩ := hSw; go_simp; try (with_reducible rfl))
  simp only [Act.put, List.setIfInBounds_toArray, List.set_cons_zero, List.set_cons_succ]
  refine wpAnyH_done (by kernel_rfl) ?_ _
  have c4 := hS0.2.1
  have HB04 := Lib.hid (HB3.out.trans (HB4.out.mono HB3.out.size))
  have T1 := Lib.hid (((bcell HB4.out).1 _ _ (World.block_lt_of_cell? w3 _ t1)).trans t1)
  clear t0 t1 c1 hS0
  by_cases h2 : k ∈ met ∧ k ≠ kSource
  · have hdt : dm = true := by rw [← Hdm.out]; exact decide_eq_true h2.1
    subst hdt
    have HR := Lib.hid (show RR = (j, 13) by rw [← HR1.out, if_pos h2])
    have y1 : (k != ([115, 111, 117, 114, 99, 101] : W8)) = true := by rw [bne_iff_ne]; exact h2.2
    have y2 : (k == ([115, 111, 117, 114, 99, 101] : W8)) = false := beq_eq_false_iff_ne.2 h2.2
    clear h2 HR1
    go_wp2_with fail
    go_ret
    exact ⟨by rw [HR.out]; rfl, fun h => (by rw [HR.out] at h; cases h), Only.of_below HB04.out⟩
  have HR2 := Lib.hid (show (if k = kWalk then walkJ j ws[0]! else if k = kSeed then seedJ j ws[0]! else if k = kSource then sourceJ j ws[0]! else numsJ j k ws) = RR by rw [← HR1.out, if_neg h2])
  have HR4 := Lib.hid (HR3.out.ext HB4.out)
  have hx5 : (dm && !(k == kSource)) = false := by
    rw [← Hdm.out]
    by_cases hm : k ∈ met
    · have : k = kSource := Decidable.of_not_not (fun e => h2 ⟨hm, e⟩)
      simp [this]
    · simp [hm]
  clear h2 HR1
  have hgo : ∃ x5, x5 = (dm && !(k == kSource)) := ⟨_, rfl⟩
  have r15 := HR4.out.at 15 (v := .map (some mb)) rfl
  have HS5 := Lib.hid (show ∀ W, Below w4.heap.size w4 W → W.cell? ⟨rb, 15, none⟩ = some (.map (some mb)) ∧ W.cell? ⟨b, off, none⟩ = some (.string (bs k)) ∧ True from
    fun W hB => ⟨((bcell hB).1 _ _ HR4.out.lt).trans r15, ((bcell hB).1 _ _ (World.block_lt_of_cell? w4 _ c4)).trans c4, trivial⟩)
  clear r15 hgo
  cases dm with
  | true =>
    have y0 : k = kSource := by simpa using hx5
    have y1 : (k != ([115, 111, 117, 114, 99, 101] : W8)) = false := by rw [y0]; decide
    have y2 : (k == ([115, 111, 117, 114, 99, 101] : W8)) = true := by rw [y0]; decide
    clear hx5 y0
    go_upto_region 7 with fail
    refine wp_region_held (S := fun W => W.cell? ⟨rb, 15, none⟩ = some (.map (some mb)) ∧ W.cell? ⟨b, off, none⟩ = some (.string (bs k)) ∧ True) (by kernel_rfl) ?_
    have hS0 := HS5.out _ (ext_drew w4)
    change wpAnyH _ _ _ _ _ _ _ _ (World.drew _)
    refine wpAnyH_take (i := 0) (oi := ⟨some 48, _, _, _, _, _⟩) (v := ?_) rfl (by kernel_rfl) (by kernel_rfl) (by kernel_rfl) (fun _ _ _ h => h) (Or.inl ⟨by rfl, ?_⟩) hS0 ?_
    rotate_left
    · (intro w' hSw; obtain ⟨s0, s1, s2⟩ := hSw; go_simp; try (with_reducible rfl))
    simp only [Act.put, List.setIfInBounds_toArray, List.set_cons_zero, List.set_cons_succ]
    refine wpAnyH_take (i := 1) (oi := ⟨some 49, _, _, _, _, _⟩) (v := ?_) rfl (by kernel_rfl) (by kernel_rfl) (by kernel_rfl) (fun _ _ _ h => h) (Or.inl ⟨by rfl, ?_⟩) hS0 ?_
    rotate_left
    · (intro w' hSw; obtain ⟨s0, s1, s2⟩ := hSw; go_simp; try (with_reducible rfl))
    simp only [Act.put, List.setIfInBounds_toArray, List.set_cons_zero, List.set_cons_succ]
    refine wpAnyH_take (i := 2) (oi := ⟨some 50, _, _, _, _, _⟩) (v := ?_) rfl (by kernel_rfl) (by kernel_rfl) (by kernel_rfl) (fun _ _ _ h => h) (Or.inl ⟨by rfl, ?_⟩) hS0 ?_
    rotate_left
    · (intro w' hSw; obtain ⟨s0, s1, s2⟩ := hSw; go_simp; try (with_reducible rfl))
    simp only [Act.put, List.setIfInBounds_toArray, List.set_cons_zero, List.set_cons_succ]
    refine wpAnyH_take (i := 3) (oi := ⟨some 51, _, _, _, _, _⟩) (v := ?_) rfl (by kernel_rfl) (by kernel_rfl) (by kernel_rfl) (fun _ _ _ h => h) (Or.inl ⟨by rfl, ?_⟩) hS0 ?_
    rotate_left
    · (intro w' hSw; obtain ⟨s0, s1, s2⟩ := hSw; go_simp; try (with_reducible rfl))
    simp only [Act.put, List.setIfInBounds_toArray, List.set_cons_zero, List.set_cons_succ]
    refine wpAnyH_take (i := 4) (oi := ⟨some 52, _, _, _, _, _⟩) (v := ?_) rfl (by kernel_rfl) (by kernel_rfl) (by kernel_rfl) (fun _ _ _ h => h) (Or.inl ⟨by rfl, ?_⟩) hS0 ?_
    rotate_left
    · (intro w' hSw; obtain ⟨s0, s1, s2⟩ := hSw; go_simp; try (with_reducible rfl))
    simp only [Act.put, List.setIfInBounds_toArray, List.set_cons_zero, List.set_cons_succ]
    refine wpAnyH_take (i := 5) (oi := ⟨some 53, _, _, _, _, _⟩) (v := ?_) rfl (by kernel_rfl) (by kernel_rfl) (by kernel_rfl) (fun _ _ _ h => h) (Or.inl ⟨by rfl, ?_⟩) hS0 ?_
    rotate_left
    · (intro w' hSw; obtain ⟨s0, s1, s2⟩ := hSw; go_simp; try (with_reducible rfl))
    simp only [Act.put, List.setIfInBounds_toArray, List.set_cons_zero, List.set_cons_succ]
    refine wpAnyH_take (i := 6) (oi := ⟨some 54, _, _, _, _, _⟩) (v := ?_) rfl (by kernel_rfl) (by kernel_rfl) (by kernel_rfl) (fun _ _ _ h => h) (Or.inl ⟨by rfl, ?_⟩) hS0 ?_
    rotate_left
    · (intro w' hSw; obtain ⟨s0, s1, s2⟩ := hSw; go_simp; try (with_reducible rfl))
    simp only [Act.put, List.setIfInBounds_toArray, List.set_cons_zero, List.set_cons_succ]
    refine wpAnyH_take (i := 7) (oi := ⟨some 55, _, _, _, _, _⟩) (v := ?_) rfl (by kernel_rfl) (by kernel_rfl) (by kernel_rfl) (fun _ _ _ h => h) (Or.inl ⟨by rfl, ?_⟩) hS0 ?_
    rotate_left
    · (intro w' hSw; obtain ⟨s0, s1, s2⟩ := hSw; go_simp; try (with_reducible rfl))
    simp only [Act.put, List.setIfInBounds_toArray, List.set_cons_zero, List.set_cons_succ]
    refine wpAnyH_all (rs := [8]) (by kernel_rfl) (by simp) ?_
    intro i hi
    rw [List.mem_singleton] at hi
    subst hi
    refine wpOp_runG (o := ⟨none, _, _, _, _, _⟩) rfl rfl fun K' hK => ?_
    refine oper_update _ _ _ _ rfl Try.underlying57 Try.underlying9 rfl rfl rfl (HR4.out.met.ext (ext_drew w4)) ?_
    intro w6 h5 h6 h7
    have hmc := map_cell_ne HR4.out.met c4
    have hmt := map_cell_ne HR4.out.met T1.out
    have hS6 : w6.cell? ⟨rb, 15, none⟩ = some (.map (some mb)) ∧ w6.cell? ⟨b, off, none⟩ = some (.string (bs k)) ∧ True := ⟨(h6.cell (by have := HR4.out.lt; exact this) (fun e => map_ne HR4.out.met HR4.out.row e.symm) _).trans hS0.1, (h6.cell (World.block_lt_of_cell? w4.drew _ hS0.2.1) hmc _).trans hS0.2.1, trivial⟩
    refine hK _ _ ⟨hS6, ?_⟩
    clear hK K' hS0
    try simp only [Act.put, List.setIfInBounds_toArray, List.set_cons_zero, List.set_cons_succ]
    refine wpAnyH_done (by kernel_rfl) ?_ _
    have HR6 := Lib.hid ((HR4.out.ext (ext_drew w4)).meet h5 h6)
    have HO6 := Lib.hid (((Only.of_below HB04.out).trans (Only.of_below (ext_drew w4)) (fun _ _ h => h)).trans h6 (fp := fun k => k = rb ∨ k = mb ∨ g = some k) (fun i _ h => .inr (.inl h)))
    have T6 := Lib.hid ((h6.cell (World.block_lt_of_cell? w4.drew _ T1.out) hmt _).trans T1.out)
    have C6 := Lib.hid hS6.2.1
    have L6 := Lib.hid (show Rd w6 (some ⟨b, off + 1, none⟩) ws.length (strCells ws) from by
      have hz : w4.heap.size = w4.drew.heap.size := rfl
      have h1 : Rd w6 (some ⟨b, off, none⟩) (ws.length + 1) (strCells (k :: ws)) := ((Hl.out.ext HB04.out).ext (ext_drew w4)).onlyB h6 (fun _ q o' hq e => hmc (by cases hq; exact e))
      refine ⟨by simp [strCells], ?_⟩
      rcases Nat.eq_zero_or_pos ws.length with h0 | h0
      · exact .inl h0
      · obtain ⟨b', off', e1, e2, e3⟩ := h1.pos (by omega)
        cases e1
        refine .inr ⟨b, off + 1, rfl, e2, fun q hq => ?_⟩
        have := e3 (q + 1) (by omega)
        rw [show off + 1 + q = off + (q + 1) by omega, this]
        simp [strCells])
    have HS6 := Lib.hid (show ∀ W, Below w6.heap.size w6 W → W.cell? ⟨nt, 1, none⟩ = some (.func (.func (takeFn k)) #[.pointer (some ⟨rb, 0, none⟩)] #[]) ∧ W.cell? ⟨b, off, none⟩ = some (.string (bs k)) ∧ True from
      fun W hB => ⟨((bcell hB).1 _ _ (World.block_lt_of_cell? w6 _ T6.out)).trans T6.out, ((bcell hB).1 _ _ (World.block_lt_of_cell? w6 _ C6.out)).trans C6.out, trivial⟩)
    have HZ := Lib.hid (Nat.le_trans HB04.out.size (Nat.le_of_eq (show w4.heap.size = w6.heap.size from h7.symm)))
    clear h5 h6 h7 hS6 hmc hmt c4 T1 C6 T6 HB04 HR4 HS5 HS1 HS4 Hone
    have hfw := HW.out.1
    obtain ⟨hn1, hn0⟩ := Hwl.out
    have hn2 := Hn.out
    by_cases k1 : k = kWalk
    · have hone : ws.length = 1 := by rw [← hn1, ← hn2, k1]; decide
      obtain ⟨s, hs⟩ : ∃ s, ws = [s] := List.length_eq_one_iff.1 hone
      rw [show takeFn k = 41 by rw [k1]; decide] at HS6
      have HM := Lib.hid (show ∀ W, Below w6.heap.size w6 W → Calls Try.prog 41 #[.pointer (some ⟨rb, 0, none⟩), .string (bs k), .slice (some ⟨b, off + 1, none⟩) ws.length (lc - 1)] W (MethRet rb mb tb (met ++ [k]) RR g W) from fun W hB => by
        have hl := L6.out.ext hB
        rw [← HR2.out, if_pos k1, hs]
        rw [hs] at hl
        exact jwalk_any rb mb tb j so sc g (met ++ [k]) W (HR6.out.ext hB) k s _ _ hl)
      clear hfw hn1 hn0 hn2 k1 hone hs
      have hq1 : (1 : Int) ≤ (ws.length : Int) + 1 := by omega
      have hq2 : ¬ lc = 1 := by have := HLc.out.1; have := Hwl.out; omega
      go_upto_region 8 with fail
      refine wp_region_held (S := fun W => W.cell? ⟨nt, 1, none⟩ = some (.func (.func 41) #[.pointer (some ⟨rb, 0, none⟩)] #[]) ∧ W.cell? ⟨b, off, none⟩ = some (.string (bs k)) ∧ True) (by kernel_rfl) ?_
      have hS0 := HS6.out _ (ext_drew w6)
      change wpAnyH _ _ _ _ _ _ _ _ (World.drew _)
      refine wpAnyH_take (i := 0) (oi := ⟨some 56, _, _, _, _, _⟩) (v := ?_) rfl (by kernel_rfl) (by kernel_rfl) (by kernel_rfl) (fun _ _ _ h => h) (Or.inl ⟨by rfl, ?_⟩) hS0 ?_
      rotate_left
      · (intro w' hSw; obtain ⟨s0, s1, s2⟩ := hSw; go_simp; try (with_reducible rfl))
      simp only [Act.put, List.setIfInBounds_toArray, List.set_cons_zero, List.set_cons_succ]
      refine wpAnyH_take (i := 1) (oi := ⟨some 57, _, _, _, _, _⟩) (v := ?_) rfl (by kernel_rfl) (by kernel_rfl) (by kernel_rfl) (fun _ _ _ h => h) (Or.inl ⟨by rfl, ?_⟩) hS0 ?_
      rotate_left
      · (intro w' hSw; obtain ⟨s0, s1, s2⟩ := hSw; go_simp; try (with_reducible rfl))
      simp only [Act.put, List.setIfInBounds_toArray, List.set_cons_zero, List.set_cons_succ]
      refine wpAnyH_take (i := 2) (oi := ⟨some 58, _, _, _, _, _⟩) (v := ?_) rfl (by kernel_rfl) (by kernel_rfl) (by kernel_rfl) (fun _ _ _ h => h) (Or.inl ⟨by rfl, ?_⟩) hS0 ?_
      rotate_left
      · (intro w' hSw; obtain ⟨s0, s1, s2⟩ := hSw; go_simp; try (with_reducible rfl))
      simp only [Act.put, List.setIfInBounds_toArray, List.set_cons_zero, List.set_cons_succ]
      refine wpAnyH_take (i := 3) (oi := ⟨some 59, _, _, _, _, _⟩) (v := ?_) rfl (by kernel_rfl) (by kernel_rfl) (by kernel_rfl) (fun _ _ _ h => h) (Or.inl ⟨by rfl, ?_⟩) hS0 ?_
      rotate_left
      · (intro w' hSw; obtain ⟨s0, s1, s2⟩ := hSw; go_simp; try (with_reducible rfl))
      simp only [Act.put, List.setIfInBounds_toArray, List.set_cons_zero, List.set_cons_succ]
      refine wpAnyH_take (i := 4) (oi := ⟨some 60, _, _, _, _, _⟩) (v := ?_) rfl (by kernel_rfl) (by kernel_rfl) (by kernel_rfl) (fun _ _ _ h => h) (Or.inl ⟨by rfl, ?_⟩) hS0 ?_
      rotate_left
      · (intro w' hSw; obtain ⟨s0, s1, s2⟩ := hSw; go_simp; try (with_reducible rfl))
      simp only [Act.put, List.setIfInBounds_toArray, List.set_cons_zero, List.set_cons_succ]
      refine wpAnyH_take (i := 5) (oi := ⟨some 61, _, _, _, _, _⟩) (v := ?_) rfl (by kernel_rfl) (by kernel_rfl) (by kernel_rfl) (fun _ _ _ h => h) (Or.inl ⟨by rfl, ?_⟩) hS0 ?_
      rotate_left
      · (intro w' hSw; obtain ⟨s0, s1, s2⟩ := hSw; go_simp; try (with_reducible rfl))
      simp only [Act.put, List.setIfInBounds_toArray, List.set_cons_zero, List.set_cons_succ]
      refine wpAnyH_take (i := 6) (oi := ⟨some 62, _, _, _, _, _⟩) (v := ?_) rfl (by kernel_rfl) (by kernel_rfl) (by kernel_rfl) (fun _ _ _ h => h) (Or.inl ⟨by rfl, ?_⟩) hS0 ?_
      rotate_left
      · (intro w' hSw; obtain ⟨s0, s1, s2⟩ := hSw; go_simp; try (with_reducible rfl))
      simp only [Act.put, List.setIfInBounds_toArray, List.set_cons_zero, List.set_cons_succ]
      refine wpAnyH_all (rs := [7]) (by kernel_rfl) (by simp) ?_
      intro i hi
      rw [List.mem_singleton] at hi
      subst hi
      refine wpOp_runG (o := ⟨some 63, _, _, _, _, _⟩) rfl rfl fun K' hK => ?_
      go_simp
      refine (HM.out _ (ext_drew w6)).mono ?_
      rintro e w7 ⟨rfl, hx, hy⟩
      have hS7 : w7.cell? ⟨nt, 1, none⟩ = some (.func (.func 41) #[.pointer (some ⟨rb, 0, none⟩)] #[]) ∧ w7.cell? ⟨b, off, none⟩ = some (.string (bs k)) ∧ True :=
        ⟨(hy.cell (World.block_lt_of_cell? w6.drew _ hS0.1) HNE.out.1 _).trans hS0.1, (hy.cell (World.block_lt_of_cell? w6.drew _ hS0.2.1) HNE.out.2 _).trans hS0.2.1, trivial⟩
      refine hK _ _ ⟨hS7, ?_⟩
      clear hK K' hS0
      have hS0 := hS7
      have HX := Lib.hid hx
      have HY := Lib.hid hy
      clear hx hy hS7
      try simp only [Act.put, List.setIfInBounds_toArray, List.set_cons_zero, List.set_cons_succ]
      refine wpAnyH_take (i := 8) (oi := ⟨some 4, _, _, _, _, _⟩) (v := ?_) rfl (by kernel_rfl) (by kernel_rfl) (by kernel_rfl) (fun _ _ _ h => h) (Or.inl ⟨by rfl, ?_⟩) hS0 ?_
      rotate_left
      · (intro w' hSw; obtain ⟨s0, s1, s2⟩ := hSw; go_simp; try (with_reducible rfl))
      simp only [Act.put, List.setIfInBounds_toArray, List.set_cons_zero, List.set_cons_succ]
      refine wpAnyH_done (by kernel_rfl) ?_ _
      go_wp2_with fail
      go_ret
      refine ⟨rfl, fun h => ?_, ?_⟩
      · obtain ⟨so', sc', g', h1, h2⟩ := HX.out h
        exact ⟨so', sc', g', h1, h2.imp id (fun h b hb => Nat.le_trans HZ.out (h b hb))⟩
      · exact (HO6.out.trans (Only.of_below (ext_drew w6)) (fun _ _ h => h)).trans HY.out (fun i _ h => h.imp id .inr)
    by_cases k2 : k = kSeed
    · have hone : ws.length = 1 := by rw [← hn1, ← hn2, k2]; decide
      obtain ⟨s, hs⟩ : ∃ s, ws = [s] := List.length_eq_one_iff.1 hone
      rw [show takeFn k = 42 by rw [k2]; decide] at HS6
      have HM := Lib.hid (show ∀ W, Below w6.heap.size w6 W → Calls Try.prog 42 #[.pointer (some ⟨rb, 0, none⟩), .string (bs k), .slice (some ⟨b, off + 1, none⟩) ws.length (lc - 1)] W (MethRet rb mb tb (met ++ [k]) RR g W) from fun W hB => by
        have hl := L6.out.ext hB
        rw [← HR2.out, if_neg k1, if_pos k2, hs]
        rw [hs] at hl
        exact jseed_any rb mb tb j so sc g (met ++ [k]) W (HR6.out.ext hB) k s (hfw s (by rw [hs]; simp)) _ _ hl)
      clear hfw hn1 hn0 hn2 k1 k2 hone hs
      have hq1 : (1 : Int) ≤ (ws.length : Int) + 1 := by omega
      have hq2 : ¬ lc = 1 := by have := HLc.out.1; have := Hwl.out; omega
      go_upto_region 8 with fail
      refine wp_region_held (S := fun W => W.cell? ⟨nt, 1, none⟩ = some (.func (.func 42) #[.pointer (some ⟨rb, 0, none⟩)] #[]) ∧ W.cell? ⟨b, off, none⟩ = some (.string (bs k)) ∧ True) (by kernel_rfl) ?_
      have hS0 := HS6.out _ (ext_drew w6)
      change wpAnyH _ _ _ _ _ _ _ _ (World.drew _)
      refine wpAnyH_take (i := 0) (oi := ⟨some 56, _, _, _, _, _⟩) (v := ?_) rfl (by kernel_rfl) (by kernel_rfl) (by kernel_rfl) (fun _ _ _ h => h) (Or.inl ⟨by rfl, ?_⟩) hS0 ?_
      rotate_left
      · (intro w' hSw; obtain ⟨s0, s1, s2⟩ := hSw; go_simp; try (with_reducible rfl))
      simp only [Act.put, List.setIfInBounds_toArray, List.set_cons_zero, List.set_cons_succ]
      refine wpAnyH_take (i := 1) (oi := ⟨some 57, _, _, _, _, _⟩) (v := ?_) rfl (by kernel_rfl) (by kernel_rfl) (by kernel_rfl) (fun _ _ _ h => h) (Or.inl ⟨by rfl, ?_⟩) hS0 ?_
      rotate_left
      · (intro w' hSw; obtain ⟨s0, s1, s2⟩ := hSw; go_simp; try (with_reducible rfl))
      simp only [Act.put, List.setIfInBounds_toArray, List.set_cons_zero, List.set_cons_succ]
      refine wpAnyH_take (i := 2) (oi := ⟨some 58, _, _, _, _, _⟩) (v := ?_) rfl (by kernel_rfl) (by kernel_rfl) (by kernel_rfl) (fun _ _ _ h => h) (Or.inl ⟨by rfl, ?_⟩) hS0 ?_
      rotate_left
      · (intro w' hSw; obtain ⟨s0, s1, s2⟩ := hSw; go_simp; try (with_reducible rfl))
      simp only [Act.put, List.setIfInBounds_toArray, List.set_cons_zero, List.set_cons_succ]
      refine wpAnyH_take (i := 3) (oi := ⟨some 59, _, _, _, _, _⟩) (v := ?_) rfl (by kernel_rfl) (by kernel_rfl) (by kernel_rfl) (fun _ _ _ h => h) (Or.inl ⟨by rfl, ?_⟩) hS0 ?_
      rotate_left
      · (intro w' hSw; obtain ⟨s0, s1, s2⟩ := hSw; go_simp; try (with_reducible rfl))
      simp only [Act.put, List.setIfInBounds_toArray, List.set_cons_zero, List.set_cons_succ]
      refine wpAnyH_take (i := 4) (oi := ⟨some 60, _, _, _, _, _⟩) (v := ?_) rfl (by kernel_rfl) (by kernel_rfl) (by kernel_rfl) (fun _ _ _ h => h) (Or.inl ⟨by rfl, ?_⟩) hS0 ?_
      rotate_left
      · (intro w' hSw; obtain ⟨s0, s1, s2⟩ := hSw; go_simp; try (with_reducible rfl))
      simp only [Act.put, List.setIfInBounds_toArray, List.set_cons_zero, List.set_cons_succ]
      refine wpAnyH_take (i := 5) (oi := ⟨some 61, _, _, _, _, _⟩) (v := ?_) rfl (by kernel_rfl) (by kernel_rfl) (by kernel_rfl) (fun _ _ _ h => h) (Or.inl ⟨by rfl, ?_⟩) hS0 ?_
      rotate_left
      · (intro w' hSw; obtain ⟨s0, s1, s2⟩ := hSw; go_simp; try (with_reducible rfl))
      simp only [Act.put, List.setIfInBounds_toArray, List.set_cons_zero, List.set_cons_succ]
      refine wpAnyH_take (i := 6) (oi := ⟨some 62, _, _, _, _, _⟩) (v := ?_) rfl (by kernel_rfl) (by kernel_rfl) (by kernel_rfl) (fun _ _ _ h => h) (Or.inl ⟨by rfl, ?_⟩) hS0 ?_
      rotate_left
      · (intro w' hSw; obtain ⟨s0, s1, s2⟩ := hSw; go_simp; try (with_reducible rfl))
      simp only [Act.put, List.setIfInBounds_toArray, List.set_cons_zero, List.set_cons_succ]
      refine wpAnyH_all (rs := [7]) (by kernel_rfl) (by simp) ?_
      intro i hi
      rw [List.mem_singleton] at hi
      subst hi
      refine wpOp_runG (o := ⟨some 63, _, _, _, _, _⟩) rfl rfl fun K' hK => ?_
      go_simp
      refine (HM.out _ (ext_drew w6)).mono ?_
      rintro e w7 ⟨rfl, hx, hy⟩
      have hS7 : w7.cell? ⟨nt, 1, none⟩ = some (.func (.func 42) #[.pointer (some ⟨rb, 0, none⟩)] #[]) ∧ w7.cell? ⟨b, off, none⟩ = some (.string (bs k)) ∧ True :=
        ⟨(hy.cell (World.block_lt_of_cell? w6.drew _ hS0.1) HNE.out.1 _).trans hS0.1, (hy.cell (World.block_lt_of_cell? w6.drew _ hS0.2.1) HNE.out.2 _).trans hS0.2.1, trivial⟩
      refine hK _ _ ⟨hS7, ?_⟩
      clear hK K' hS0
      have hS0 := hS7
      have HX := Lib.hid hx
      have HY := Lib.hid hy
      clear hx hy hS7
      try simp only [Act.put, List.setIfInBounds_toArray, List.set_cons_zero, List.set_cons_succ]
      refine wpAnyH_take (i := 8) (oi := ⟨some 4, _, _, _, _, _⟩) (v := ?_) rfl (by kernel_rfl) (by kernel_rfl) (by kernel_rfl) (fun _ _ _ h => h) (Or.inl ⟨by rfl, ?_⟩) hS0 ?_
      rotate_left
      · (intro w' hSw; obtain ⟨s0, s1, s2⟩ := hSw; go_simp; try (with_reducible rfl))
      simp only [Act.put, List.setIfInBounds_toArray, List.set_cons_zero, List.set_cons_succ]
      refine wpAnyH_done (by kernel_rfl) ?_ _
      go_wp2_with fail
      go_ret
      refine ⟨rfl, fun h => ?_, ?_⟩
      · obtain ⟨so', sc', g', h1, h2⟩ := HX.out h
        exact ⟨so', sc', g', h1, h2.imp id (fun h b hb => Nat.le_trans HZ.out (h b hb))⟩
      · exact (HO6.out.trans (Only.of_below (ext_drew w6)) (fun _ _ h => h)).trans HY.out (fun i _ h => h.imp id .inr)
    by_cases k3 : k = kSource
    · have hone : ws.length = 1 := by rw [← hn1, ← hn2, k3]; decide
      obtain ⟨s, hs⟩ : ∃ s, ws = [s] := List.length_eq_one_iff.1 hone
      rw [show takeFn k = 43 by rw [k3]; decide] at HS6
      have HM := Lib.hid (show ∀ W, Below w6.heap.size w6 W → Calls Try.prog 43 #[.pointer (some ⟨rb, 0, none⟩), .string (bs k), .slice (some ⟨b, off + 1, none⟩) ws.length (lc - 1)] W (MethRet rb mb tb (met ++ [k]) RR g W) from fun W hB => by
        have hl := L6.out.ext hB
        rw [← HR2.out, if_neg k1, if_neg k2, if_pos k3, hs]
        rw [hs] at hl
        exact jsource_any19 rb mb tb j hfew so sc g (met ++ [k]) W (HR6.out.ext hB) k s (hfw s (by rw [hs]; simp)) _ _ hl)
      clear hfw hn1 hn0 hn2 k1 k2 k3 hone hs
      have hq1 : (1 : Int) ≤ (ws.length : Int) + 1 := by omega
      have hq2 : ¬ lc = 1 := by have := HLc.out.1; have := Hwl.out; omega
      go_upto_region 8 with fail
      refine wp_region_held (S := fun W => W.cell? ⟨nt, 1, none⟩ = some (.func (.func 43) #[.pointer (some ⟨rb, 0, none⟩)] #[]) ∧ W.cell? ⟨b, off, none⟩ = some (.string (bs k)) ∧ True) (by kernel_rfl) ?_
      have hS0 := HS6.out _ (ext_drew w6)
      change wpAnyH _ _ _ _ _ _ _ _ (World.drew _)
      refine wpAnyH_take (i := 0) (oi := ⟨some 56, _, _, _, _, _⟩) (v := ?_) rfl (by kernel_rfl) (by kernel_rfl) (by kernel_rfl) (fun _ _ _ h => h) (Or.inl ⟨by rfl, ?_⟩) hS0 ?_
      rotate_left
      · (intro w' hSw; obtain ⟨s0, s1, s2⟩ := hSw; go_simp; try (with_reducible rfl))
      simp only [Act.put, List.setIfInBounds_toArray, List.set_cons_zero, List.set_cons_succ]
      refine wpAnyH_take (i := 1) (oi := ⟨some 57, _, _, _, _, _⟩) (v := ?_) rfl (by kernel_rfl) (by kernel_rfl) (by kernel_rfl) (fun _ _ _ h => h) (Or.inl ⟨by rfl, ?_⟩) hS0 ?_
      rotate_left
      · (intro w' hSw; obtain ⟨s0, s1, s2⟩ := hSw; go_simp; try (with_reducible rfl))
      simp only [Act.put, List.setIfInBounds_toArray, List.set_cons_zero, List.set_cons_succ]
      refine wpAnyH_take (i := 2) (oi := ⟨some 58, _, _, _, _, _⟩) (v := ?_) rfl (by kernel_rfl) (by kernel_rfl) (by kernel_rfl) (fun _ _ _ h => h) (Or.inl ⟨by rfl, ?_⟩) hS0 ?_
      rotate_left
      · (intro w' hSw; obtain ⟨s0, s1, s2⟩ := hSw; go_simp; try (with_reducible rfl))
      simp only [Act.put, List.setIfInBounds_toArray, List.set_cons_zero, List.set_cons_succ]
      refine wpAnyH_take (i := 3) (oi := ⟨some 59, _, _, _, _, _⟩) (v := ?_) rfl (by kernel_rfl) (by kernel_rfl) (by kernel_rfl) (fun _ _ _ h => h) (Or.inl ⟨by rfl, ?_⟩) hS0 ?_
      rotate_left
      · (intro w' hSw; obtain ⟨s0, s1, s2⟩ := hSw; go_simp; try (with_reducible rfl))
      simp only [Act.put, List.setIfInBounds_toArray, List.set_cons_zero, List.set_cons_succ]
      refine wpAnyH_take (i := 4) (oi := ⟨some 60, _, _, _, _, _⟩) (v := ?_) rfl (by kernel_rfl) (by kernel_rfl) (by kernel_rfl) (fun _ _ _ h => h) (Or.inl ⟨by rfl, ?_⟩) hS0 ?_
      rotate_left
      · (intro w' hSw; obtain ⟨s0, s1, s2⟩ := hSw; go_simp; try (with_reducible rfl))
      simp only [Act.put, List.setIfInBounds_toArray, List.set_cons_zero, List.set_cons_succ]
      refine wpAnyH_take (i := 5) (oi := ⟨some 61, _, _, _, _, _⟩) (v := ?_) rfl (by kernel_rfl) (by kernel_rfl) (by kernel_rfl) (fun _ _ _ h => h) (Or.inl ⟨by rfl, ?_⟩) hS0 ?_
      rotate_left
      · (intro w' hSw; obtain ⟨s0, s1, s2⟩ := hSw; go_simp; try (with_reducible rfl))
      simp only [Act.put, List.setIfInBounds_toArray, List.set_cons_zero, List.set_cons_succ]
      refine wpAnyH_take (i := 6) (oi := ⟨some 62, _, _, _, _, _⟩) (v := ?_) rfl (by kernel_rfl) (by kernel_rfl) (by kernel_rfl) (fun _ _ _ h => h) (Or.inl ⟨by rfl, ?_⟩) hS0 ?_
      rotate_left
      · (intro w' hSw; obtain ⟨s0, s1, s2⟩ := hSw; go_simp; try (with_reducible rfl))
      simp only [Act.put, List.setIfInBounds_toArray, List.set_cons_zero, List.set_cons_succ]
      refine wpAnyH_all (rs := [7]) (by kernel_rfl) (by simp) ?_
      intro i hi
      rw [List.mem_singleton] at hi
      subst hi
      refine wpOp_runG (o := ⟨some 63, _, _, _, _, _⟩) rfl rfl fun K' hK => ?_
      go_simp
      refine (HM.out _ (ext_drew w6)).mono ?_
      rintro e w7 ⟨rfl, hx, hy⟩
      have hS7 : w7.cell? ⟨nt, 1, none⟩ = some (.func (.func 43) #[.pointer (some ⟨rb, 0, none⟩)] #[]) ∧ w7.cell? ⟨b, off, none⟩ = some (.string (bs k)) ∧ True :=
        ⟨(hy.cell (World.block_lt_of_cell? w6.drew _ hS0.1) HNE.out.1 _).trans hS0.1, (hy.cell (World.block_lt_of_cell? w6.drew _ hS0.2.1) HNE.out.2 _).trans hS0.2.1, trivial⟩
      refine hK _ _ ⟨hS7, ?_⟩
      clear hK K' hS0
      have hS0 := hS7
      have HX := Lib.hid hx
      have HY := Lib.hid hy
      clear hx hy hS7
      try simp only [Act.put, List.setIfInBounds_toArray, List.set_cons_zero, List.set_cons_succ]
      refine wpAnyH_take (i := 8) (oi := ⟨some 4, _, _, _, _, _⟩) (v := ?_) rfl (by kernel_rfl) (by kernel_rfl) (by kernel_rfl) (fun _ _ _ h => h) (Or.inl ⟨by rfl, ?_⟩) hS0 ?_
      rotate_left
      · (intro w' hSw; obtain ⟨s0, s1, s2⟩ := hSw; go_simp; try (with_reducible rfl))
      simp only [Act.put, List.setIfInBounds_toArray, List.set_cons_zero, List.set_cons_succ]
      refine wpAnyH_done (by kernel_rfl) ?_ _
      go_wp2_with fail
      go_ret
      refine ⟨rfl, fun h => ?_, ?_⟩
      · obtain ⟨so', sc', g', h1, h2⟩ := HX.out h
        exact ⟨so', sc', g', h1, h2.imp id (fun h b hb => Nat.le_trans HZ.out (h b hb))⟩
      · exact (HO6.out.trans (Only.of_below (ext_drew w6)) (fun _ _ h => h)).trans HY.out (fun i _ h => h.imp id .inr)
    · have hw3 : wantsJ k = (entryJ k).length := by unfold wantsJ; rw [if_neg (by simp [k1, k2, k3])]
      obtain ⟨e, he, hek, hen⟩ : ∃ e ∈ numTab, e.1 = k ∧ entryJ k = e.2 := (entry_cases k).resolve_left (fun h => hn0 (by rw [← hn2, hw3, h]; rfl))
      have hwe : ws.length = e.2.length := by rw [← hn1, ← hn2, hw3, hen]
      rw [show takeFn k = 44 by unfold takeFn; rw [if_neg k1, if_neg k2, if_neg k3]] at HS6
      have HM := Lib.hid (show ∀ W, Below w6.heap.size w6 W → Calls Try.prog 44 #[.pointer (some ⟨rb, 0, none⟩), .string (bs k), .slice (some ⟨b, off + 1, none⟩) ws.length (lc - 1)] W (MethRet rb mb tb (met ++ [k]) RR g W) from fun W hB => by
        have hl := L6.out.ext hB
        rw [hwe] at hl
        rw [← HR2.out, if_neg k1, if_neg k2, if_neg k3, hwe]
        unfold numsJ
        rw [hen, ← hek]
        rw [← hek] at HR6
        exact jnumbers_any rb mb tb j so sc g (met ++ [e.1]) W (HR6.out.ext hB) e he ws hwe hfw _ _ hl)
      clear hfw hn1 hn0 hn2 k1 k2 k3 hw3 he hek hen hwe
      have hq1 : (1 : Int) ≤ (ws.length : Int) + 1 := by omega
      have hq2 : ¬ lc = 1 := by have := HLc.out.1; have := Hwl.out; omega
      go_upto_region 8 with fail
      refine wp_region_held (S := fun W => W.cell? ⟨nt, 1, none⟩ = some (.func (.func 44) #[.pointer (some ⟨rb, 0, none⟩)] #[]) ∧ W.cell? ⟨b, off, none⟩ = some (.string (bs k)) ∧ True) (by kernel_rfl) ?_
      have hS0 := HS6.out _ (ext_drew w6)
      change wpAnyH _ _ _ _ _ _ _ _ (World.drew _)
      refine wpAnyH_take (i := 0) (oi := ⟨some 56, _, _, _, _, _⟩) (v := ?_) rfl (by kernel_rfl) (by kernel_rfl) (by kernel_rfl) (fun _ _ _ h => h) (Or.inl ⟨by rfl, ?_⟩) hS0 ?_
      rotate_left
      · (intro w' hSw; obtain ⟨s0, s1, s2⟩ := hSw; go_simp; try (with_reducible rfl))
      simp only [Act.put, List.setIfInBounds_toArray, List.set_cons_zero, List.set_cons_succ]
      refine wpAnyH_take (i := 1) (oi := ⟨some 57, _, _, _, _, _⟩) (v := ?_) rfl (by kernel_rfl) (by kernel_rfl) (by kernel_rfl) (fun _ _ _ h => h) (Or.inl ⟨by rfl, ?_⟩) hS0 ?_
      rotate_left
      · (intro w' hSw; obtain ⟨s0, s1, s2⟩ := hSw; go_simp; try (with_reducible rfl))
      simp only [Act.put, List.setIfInBounds_toArray, List.set_cons_zero, List.set_cons_succ]
      refine wpAnyH_take (i := 2) (oi := ⟨some 58, _, _, _, _, _⟩) (v := ?_) rfl (by kernel_rfl) (by kernel_rfl) (by kernel_rfl) (fun _ _ _ h => h) (Or.inl ⟨by rfl, ?_⟩) hS0 ?_
      rotate_left
      · (intro w' hSw; obtain ⟨s0, s1, s2⟩ := hSw; go_simp; try (with_reducible rfl))
      simp only [Act.put, List.setIfInBounds_toArray, List.set_cons_zero, List.set_cons_succ]
      refine wpAnyH_take (i := 3) (oi := ⟨some 59, _, _, _, _, _⟩) (v := ?_) rfl (by kernel_rfl) (by kernel_rfl) (by kernel_rfl) (fun _ _ _ h => h) (Or.inl ⟨by rfl, ?_⟩) hS0 ?_
      rotate_left
      · (intro w' hSw; obtain ⟨s0, s1, s2⟩ := hSw; go_simp; try (with_reducible rfl))
      simp only [Act.put, List.setIfInBounds_toArray, List.set_cons_zero, List.set_cons_succ]
      refine wpAnyH_take (i := 4) (oi := ⟨some 60, _, _, _, _, _⟩) (v := ?_) rfl (by kernel_rfl) (by kernel_rfl) (by kernel_rfl) (fun _ _ _ h => h) (Or.inl ⟨by rfl, ?_⟩) hS0 ?_
      rotate_left
      · (intro w' hSw; obtain ⟨s0, s1, s2⟩ := hSw; go_simp; try (with_reducible rfl))
      simp only [Act.put, List.setIfInBounds_toArray, List.set_cons_zero, List.set_cons_succ]
      refine wpAnyH_take (i := 5) (oi := ⟨some 61, _, _, _, _, _⟩) (v := ?_) rfl (by kernel_rfl) (by kernel_rfl) (by kernel_rfl) (fun _ _ _ h => h) (Or.inl ⟨by rfl, ?_⟩) hS0 ?_
      rotate_left
      · (intro w' hSw; obtain ⟨s0, s1, s2⟩ := hSw; go_simp; try (with_reducible rfl))
      simp only [Act.put, List.setIfInBounds_toArray, List.set_cons_zero, List.set_cons_succ]
      refine wpAnyH_take (i := 6) (oi := ⟨some 62, _, _, _, _, _⟩) (v := ?_) rfl (by kernel_rfl) (by kernel_rfl) (by kernel_rfl) (fun _ _ _ h => h) (Or.inl ⟨by rfl, ?_⟩) hS0 ?_
      rotate_left
      · (intro w' hSw; obtain ⟨s0, s1, s2⟩ := hSw; go_simp; try (with_reducible rfl))
      simp only [Act.put, List.setIfInBounds_toArray, List.set_cons_zero, List.set_cons_succ]
      refine wpAnyH_all (rs := [7]) (by kernel_rfl) (by simp) ?_
      intro i hi
      rw [List.mem_singleton] at hi
      subst hi
      refine wpOp_runG (o := ⟨some 63, _, _, _, _, _⟩) rfl rfl fun K' hK => ?_
      go_simp
      refine (HM.out _ (ext_drew w6)).mono ?_
      rintro e w7 ⟨rfl, hx, hy⟩
      have hS7 : w7.cell? ⟨nt, 1, none⟩ = some (.func (.func 44) #[.pointer (some ⟨rb, 0, none⟩)] #[]) ∧ w7.cell? ⟨b, off, none⟩ = some (.string (bs k)) ∧ True :=
        ⟨(hy.cell (World.block_lt_of_cell? w6.drew _ hS0.1) HNE.out.1 _).trans hS0.1, (hy.cell (World.block_lt_of_cell? w6.drew _ hS0.2.1) HNE.out.2 _).trans hS0.2.1, trivial⟩
      refine hK _ _ ⟨hS7, ?_⟩
      clear hK K' hS0
      have hS0 := hS7
      have HX := Lib.hid hx
      have HY := Lib.hid hy
      clear hx hy hS7
      try simp only [Act.put, List.setIfInBounds_toArray, List.set_cons_zero, List.set_cons_succ]
      refine wpAnyH_take (i := 8) (oi := ⟨some 4, _, _, _, _, _⟩) (v := ?_) rfl (by kernel_rfl) (by kernel_rfl) (by kernel_rfl) (fun _ _ _ h => h) (Or.inl ⟨by rfl, ?_⟩) hS0 ?_
      rotate_left
      · (intro w' hSw; obtain ⟨s0, s1, s2⟩ := hSw; go_simp; try (with_reducible rfl))
      simp only [Act.put, List.setIfInBounds_toArray, List.set_cons_zero, List.set_cons_succ]
      refine wpAnyH_done (by kernel_rfl) ?_ _
      go_wp2_with fail
      go_ret
      refine ⟨rfl, fun h => ?_, ?_⟩
      · obtain ⟨so', sc', g', h1, h2⟩ := HX.out h
        exact ⟨so', sc', g', h1, h2.imp id (fun h b hb => Nat.le_trans HZ.out (h b hb))⟩
      · exact (HO6.out.trans (Only.of_below (ext_drew w6)) (fun _ _ h => h)).trans HY.out (fun i _ h => h.imp id .inr)
  | false =>
    clear hx5
    go_upto_region 7 with fail
    refine wp_region_held (S := fun W => W.cell? ⟨rb, 15, none⟩ = some (.map (some mb)) ∧ W.cell? ⟨b, off, none⟩ = some (.string (bs k)) ∧ True) (by kernel_rfl) ?_
    have hS0 := HS5.out _ (ext_drew w4)
    change wpAnyH _ _ _ _ _ _ _ _ (World.drew _)
    refine wpAnyH_take (i := 0) (oi := ⟨some 48, _, _, _, _, _⟩) (v := ?_) rfl (by kernel_rfl) (by kernel_rfl) (by kernel_rfl) (fun _ _ _ h => h) (Or.inl ⟨by rfl, ?_⟩) hS0 ?_
    rotate_left
    · (intro w' hSw; obtain ⟨s0, s1, s2⟩ := hSw; go_simp; try (with_reducible rfl))
    simp only [Act.put, List.setIfInBounds_toArray, List.set_cons_zero, List.set_cons_succ]
    refine wpAnyH_take (i := 1) (oi := ⟨some 49, _, _, _, _, _⟩) (v := ?_) rfl (by kernel_rfl) (by kernel_rfl) (by kernel_rfl) (fun _ _ _ h => h) (Or.inl ⟨by rfl, ?_⟩) hS0 ?_
    rotate_left
    · (intro w' hSw; obtain ⟨s0, s1, s2⟩ := hSw; go_simp; try (with_reducible rfl))
    simp only [Act.put, List.setIfInBounds_toArray, List.set_cons_zero, List.set_cons_succ]
    refine wpAnyH_take (i := 2) (oi := ⟨some 50, _, _, _, _, _⟩) (v := ?_) rfl (by kernel_rfl) (by kernel_rfl) (by kernel_rfl) (fun _ _ _ h => h) (Or.inl ⟨by rfl, ?_⟩) hS0 ?_
    rotate_left
    · (intro w' hSw; obtain ⟨s0, s1, s2⟩ := hSw; go_simp; try (with_reducible rfl))
    simp only [Act.put, List.setIfInBounds_toArray, List.set_cons_zero, List.set_cons_succ]
    refine wpAnyH_take (i := 3) (oi := ⟨some 51, _, _, _, _, _⟩) (v := ?_) rfl (by kernel_rfl) (by kernel_rfl) (by kernel_rfl) (fun _ _ _ h => h) (Or.inl ⟨by rfl, ?_⟩) hS0 ?_
    rotate_left
    · (intro w' hSw; obtain ⟨s0, s1, s2⟩ := hSw; go_simp; try (with_reducible rfl))
    simp only [Act.put, List.setIfInBounds_toArray, List.set_cons_zero, List.set_cons_succ]
    refine wpAnyH_take (i := 4) (oi := ⟨some 52, _, _, _, _, _⟩) (v := ?_) rfl (by kernel_rfl) (by kernel_rfl) (by kernel_rfl) (fun _ _ _ h => h) (Or.inl ⟨by rfl, ?_⟩) hS0 ?_
    rotate_left
    · (intro w' hSw; obtain ⟨s0, s1, s2⟩ := hSw; go_simp; try (with_reducible rfl))
    simp only [Act.put, List.setIfInBounds_toArray, List.set_cons_zero, List.set_cons_succ]
    refine wpAnyH_take (i := 5) (oi := ⟨some 53, _, _, _, _, _⟩) (v := ?_) rfl (by kernel_rfl) (by kernel_rfl) (by kernel_rfl) (fun _ _ _ h => h) (Or.inl ⟨by rfl, ?_⟩) hS0 ?_
    rotate_left
    · (intro w' hSw; obtain ⟨s0, s1, s2⟩ := hSw; go_simp; try (with_reducible rfl))
    simp only [Act.put, List.setIfInBounds_toArray, List.set_cons_zero, List.set_cons_succ]
    refine wpAnyH_take (i := 6) (oi := ⟨some 54, _, _, _, _, _⟩) (v := ?_) rfl (by kernel_rfl) (by kernel_rfl) (by kernel_rfl) (fun _ _ _ h => h) (Or.inl ⟨by rfl, ?_⟩) hS0 ?_
    rotate_left
    · (intro w' hSw; obtain ⟨s0, s1, s2⟩ := hSw; go_simp; try (with_reducible rfl))
    simp only [Act.put, List.setIfInBounds_toArray, List.set_cons_zero, List.set_cons_succ]
    refine wpAnyH_take (i := 7) (oi := ⟨some 55, _, _, _, _, _⟩) (v := ?_) rfl (by kernel_rfl) (by kernel_rfl) (by kernel_rfl) (fun _ _ _ h => h) (Or.inl ⟨by rfl, ?_⟩) hS0 ?_
    rotate_left
    · (intro w' hSw; obtain ⟨s0, s1, s2⟩ := hSw; go_simp; try (with_reducible rfl))
    simp only [Act.put, List.setIfInBounds_toArray, List.set_cons_zero, List.set_cons_succ]
    refine wpAnyH_all (rs := [8]) (by kernel_rfl) (by simp) ?_
    intro i hi
    rw [List.mem_singleton] at hi
    subst hi
    refine wpOp_runG (o := ⟨none, _, _, _, _, _⟩) rfl rfl fun K' hK => ?_
    refine oper_update _ _ _ _ rfl Try.underlying57 Try.underlying9 rfl rfl rfl (HR4.out.met.ext (ext_drew w4)) ?_
    intro w6 h5 h6 h7
    have hmc := map_cell_ne HR4.out.met c4
    have hmt := map_cell_ne HR4.out.met T1.out
    have hS6 : w6.cell? ⟨rb, 15, none⟩ = some (.map (some mb)) ∧ w6.cell? ⟨b, off, none⟩ = some (.string (bs k)) ∧ True := ⟨(h6.cell (by have := HR4.out.lt; exact this) (fun e => map_ne HR4.out.met HR4.out.row e.symm) _).trans hS0.1, (h6.cell (World.block_lt_of_cell? w4.drew _ hS0.2.1) hmc _).trans hS0.2.1, trivial⟩
    refine hK _ _ ⟨hS6, ?_⟩
    clear hK K' hS0
    try simp only [Act.put, List.setIfInBounds_toArray, List.set_cons_zero, List.set_cons_succ]
    refine wpAnyH_done (by kernel_rfl) ?_ _
    have HR6 := Lib.hid ((HR4.out.ext (ext_drew w4)).meet h5 h6)
    have HO6 := Lib.hid (((Only.of_below HB04.out).trans (Only.of_below (ext_drew w4)) (fun _ _ h => h)).trans h6 (fp := fun k => k = rb ∨ k = mb ∨ g = some k) (fun i _ h => .inr (.inl h)))
    have T6 := Lib.hid ((h6.cell (World.block_lt_of_cell? w4.drew _ T1.out) hmt _).trans T1.out)
    have C6 := Lib.hid hS6.2.1
    have L6 := Lib.hid (show Rd w6 (some ⟨b, off + 1, none⟩) ws.length (strCells ws) from by
      have hz : w4.heap.size = w4.drew.heap.size := rfl
      have h1 : Rd w6 (some ⟨b, off, none⟩) (ws.length + 1) (strCells (k :: ws)) := ((Hl.out.ext HB04.out).ext (ext_drew w4)).onlyB h6 (fun _ q o' hq e => hmc (by cases hq; exact e))
      refine ⟨by simp [strCells], ?_⟩
      rcases Nat.eq_zero_or_pos ws.length with h0 | h0
      · exact .inl h0
      · obtain ⟨b', off', e1, e2, e3⟩ := h1.pos (by omega)
        cases e1
        refine .inr ⟨b, off + 1, rfl, e2, fun q hq => ?_⟩
        have := e3 (q + 1) (by omega)
        rw [show off + 1 + q = off + (q + 1) by omega, this]
        simp [strCells])
    have HS6 := Lib.hid (show ∀ W, Below w6.heap.size w6 W → W.cell? ⟨nt, 1, none⟩ = some (.func (.func (takeFn k)) #[.pointer (some ⟨rb, 0, none⟩)] #[]) ∧ W.cell? ⟨b, off, none⟩ = some (.string (bs k)) ∧ True from
      fun W hB => ⟨((bcell hB).1 _ _ (World.block_lt_of_cell? w6 _ T6.out)).trans T6.out, ((bcell hB).1 _ _ (World.block_lt_of_cell? w6 _ C6.out)).trans C6.out, trivial⟩)
    have HZ := Lib.hid (Nat.le_trans HB04.out.size (Nat.le_of_eq (show w4.heap.size = w6.heap.size from h7.symm)))
    clear h5 h6 h7 hS6 hmc hmt c4 T1 C6 T6 HB04 HR4 HS5 HS1 HS4 Hone
    have hfw := HW.out.1
    obtain ⟨hn1, hn0⟩ := Hwl.out
    have hn2 := Hn.out
    by_cases k1 : k = kWalk
    · have hone : ws.length = 1 := by rw [← hn1, ← hn2, k1]; decide
      obtain ⟨s, hs⟩ : ∃ s, ws = [s] := List.length_eq_one_iff.1 hone
      rw [show takeFn k = 41 by rw [k1]; decide] at HS6
      have HM := Lib.hid (show ∀ W, Below w6.heap.size w6 W → Calls Try.prog 41 #[.pointer (some ⟨rb, 0, none⟩), .string (bs k), .slice (some ⟨b, off + 1, none⟩) ws.length (lc - 1)] W (MethRet rb mb tb (met ++ [k]) RR g W) from fun W hB => by
        have hl := L6.out.ext hB
        rw [← HR2.out, if_pos k1, hs]
        rw [hs] at hl
        exact jwalk_any rb mb tb j so sc g (met ++ [k]) W (HR6.out.ext hB) k s _ _ hl)
      clear hfw hn1 hn0 hn2 k1 hone hs
      have hq1 : (1 : Int) ≤ (ws.length : Int) + 1 := by omega
      have hq2 : ¬ lc = 1 := by have := HLc.out.1; have := Hwl.out; omega
      go_upto_region 8 with fail
      refine wp_region_held (S := fun W => W.cell? ⟨nt, 1, none⟩ = some (.func (.func 41) #[.pointer (some ⟨rb, 0, none⟩)] #[]) ∧ W.cell? ⟨b, off, none⟩ = some (.string (bs k)) ∧ True) (by kernel_rfl) ?_
      have hS0 := HS6.out _ (ext_drew w6)
      change wpAnyH _ _ _ _ _ _ _ _ (World.drew _)
      refine wpAnyH_take (i := 0) (oi := ⟨some 56, _, _, _, _, _⟩) (v := ?_) rfl (by kernel_rfl) (by kernel_rfl) (by kernel_rfl) (fun _ _ _ h => h) (Or.inl ⟨by rfl, ?_⟩) hS0 ?_
      rotate_left
      · (intro w' hSw; obtain ⟨s0, s1, s2⟩ := hSw; go_simp; try (with_reducible rfl))
      simp only [Act.put, List.setIfInBounds_toArray, List.set_cons_zero, List.set_cons_succ]
      refine wpAnyH_take (i := 1) (oi := ⟨some 57, _, _, _, _, _⟩) (v := ?_) rfl (by kernel_rfl) (by kernel_rfl) (by kernel_rfl) (fun _ _ _ h => h) (Or.inl ⟨by rfl, ?_⟩) hS0 ?_
      rotate_left
      · (intro w' hSw; obtain ⟨s0, s1, s2⟩ := hSw; go_simp; try (with_reducible rfl))
      simp only [Act.put, List.setIfInBounds_toArray, List.set_cons_zero, List.set_cons_succ]
      refine wpAnyH_take (i := 2) (oi := ⟨some 58, _, _, _, _, _⟩) (v := ?_) rfl (by kernel_rfl) (by kernel_rfl) (by kernel_rfl) (fun _ _ _ h => h) (Or.inl ⟨by rfl, ?_⟩) hS0 ?_
      rotate_left
      · (intro w' hSw; obtain ⟨s0, s1, s2⟩ := hSw; go_simp; try (with_reducible rfl))
      simp only [Act.put, List.setIfInBounds_toArray, List.set_cons_zero, List.set_cons_succ]
      refine wpAnyH_take (i := 3) (oi := ⟨some 59, _, _, _, _, _⟩) (v := ?_) rfl (by kernel_rfl) (by kernel_rfl) (by kernel_rfl) (fun _ _ _ h => h) (Or.inl ⟨by rfl, ?_⟩) hS0 ?_
      rotate_left
      · (intro w' hSw; obtain ⟨s0, s1, s2⟩ := hSw; go_simp; try (with_reducible rfl))
      simp only [Act.put, List.setIfInBounds_toArray, List.set_cons_zero, List.set_cons_succ]
      refine wpAnyH_take (i := 4) (oi := ⟨some 60, _, _, _, _, _⟩) (v := ?_) rfl (by kernel_rfl) (by kernel_rfl) (by kernel_rfl) (fun _ _ _ h => h) (Or.inl ⟨by rfl, ?_⟩) hS0 ?_
      rotate_left
      · (intro w' hSw; obtain ⟨s0, s1, s2⟩ := hSw; go_simp; try (with_reducible rfl))
      simp only [Act.put, List.setIfInBounds_toArray, List.set_cons_zero, List.set_cons_succ]
      refine wpAnyH_take (i := 5) (oi := ⟨some 61, _, _, _, _, _⟩) (v := ?_) rfl (by kernel_rfl) (by kernel_rfl) (by kernel_rfl) (fun _ _ _ h => h) (Or.inl ⟨by rfl, ?_⟩) hS0 ?_
      rotate_left
      · (intro w' hSw; obtain ⟨s0, s1, s2⟩ := hSw; go_simp; try (with_reducible rfl))
      simp only [Act.put, List.setIfInBounds_toArray, List.set_cons_zero, List.set_cons_succ]
      refine wpAnyH_take (i := 6) (oi := ⟨some 62, _, _, _, _, _⟩) (v := ?_) rfl (by kernel_rfl) (by kernel_rfl) (by kernel_rfl) (fun _ _ _ h => h) (Or.inl ⟨by rfl, ?_⟩) hS0 ?_
      rotate_left
      · (intro w' hSw; obtain ⟨s0, s1, s2⟩ := hSw; go_simp; try (with_reducible rfl))
      simp only [Act.put, List.setIfInBounds_toArray, List.set_cons_zero, List.set_cons_succ]
      refine wpAnyH_all (rs := [7]) (by kernel_rfl) (by simp) ?_
      intro i hi
      rw [List.mem_singleton] at hi
      subst hi
      refine wpOp_runG (o := ⟨some 63, _, _, _, _, _⟩) rfl rfl fun K' hK => ?_
      go_simp
      refine (HM.out _ (ext_drew w6)).mono ?_
      rintro e w7 ⟨rfl, hx, hy⟩
      have hS7 : w7.cell? ⟨nt, 1, none⟩ = some (.func (.func 41) #[.pointer (some ⟨rb, 0, none⟩)] #[]) ∧ w7.cell? ⟨b, off, none⟩ = some (.string (bs k)) ∧ True :=
        ⟨(hy.cell (World.block_lt_of_cell? w6.drew _ hS0.1) HNE.out.1 _).trans hS0.1, (hy.cell (World.block_lt_of_cell? w6.drew _ hS0.2.1) HNE.out.2 _).trans hS0.2.1, trivial⟩
      refine hK _ _ ⟨hS7, ?_⟩
      clear hK K' hS0
      have hS0 := hS7
      have HX := Lib.hid hx
      have HY := Lib.hid hy
      clear hx hy hS7
      try simp only [Act.put, List.setIfInBounds_toArray, List.set_cons_zero, List.set_cons_succ]
      refine wpAnyH_take (i := 8) (oi := ⟨some 4, _, _, _, _, _⟩) (v := ?_) rfl (by kernel_rfl) (by kernel_rfl) (by kernel_rfl) (fun _ _ _ h => h) (Or.inl ⟨by rfl, ?_⟩) hS0 ?_
      rotate_left
      · (intro w' hSw; obtain ⟨s0, s1, s2⟩ := hSw; go_simp; try (with_reducible rfl))
      simp only [Act.put, List.setIfInBounds_toArray, List.set_cons_zero, List.set_cons_succ]
      refine wpAnyH_done (by kernel_rfl) ?_ _
      go_wp2_with fail
      go_ret
      refine ⟨rfl, fun h => ?_, ?_⟩
      · obtain ⟨so', sc', g', h1, h2⟩ := HX.out h
        exact ⟨so', sc', g', h1, h2.imp id (fun h b hb => Nat.le_trans HZ.out (h b hb))⟩
      · exact (HO6.out.trans (Only.of_below (ext_drew w6)) (fun _ _ h => h)).trans HY.out (fun i _ h => h.imp id .inr)
    by_cases k2 : k = kSeed
    · have hone : ws.length = 1 := by rw [← hn1, ← hn2, k2]; decide
      obtain ⟨s, hs⟩ : ∃ s, ws = [s] := List.length_eq_one_iff.1 hone
      rw [show takeFn k = 42 by rw [k2]; decide] at HS6
      have HM := Lib.hid (show ∀ W, Below w6.heap.size w6 W → Calls Try.prog 42 #[.pointer (some ⟨rb, 0, none⟩), .string (bs k), .slice (some ⟨b, off + 1, none⟩) ws.length (lc - 1)] W (MethRet rb mb tb (met ++ [k]) RR g W) from fun W hB => by
        have hl := L6.out.ext hB
        rw [← HR2.out, if_neg k1, if_pos k2, hs]
        rw [hs] at hl
        exact jseed_any rb mb tb j so sc g (met ++ [k]) W (HR6.out.ext hB) k s (hfw s (by rw [hs]; simp)) _ _ hl)
      clear hfw hn1 hn0 hn2 k1 k2 hone hs
      have hq1 : (1 : Int) ≤ (ws.length : Int) + 1 := by omega
      have hq2 : ¬ lc = 1 := by have := HLc.out.1; have := Hwl.out; omega
      go_upto_region 8 with fail
      refine wp_region_held (S := fun W => W.cell? ⟨nt, 1, none⟩ = some (.func (.func 42) #[.pointer (some ⟨rb, 0, none⟩)] #[]) ∧ W.cell? ⟨b, off, none⟩ = some (.string (bs k)) ∧ True) (by kernel_rfl) ?_
      have hS0 := HS6.out _ (ext_drew w6)
      change wpAnyH _ _ _ _ _ _ _ _ (World.drew _)
      refine wpAnyH_take (i := 0) (oi := ⟨some 56, _, _, _, _, _⟩) (v := ?_) rfl (by kernel_rfl) (by kernel_rfl) (by kernel_rfl) (fun _ _ _ h => h) (Or.inl ⟨by rfl, ?_⟩) hS0 ?_
      rotate_left
      · (intro w' hSw; obtain ⟨s0, s1, s2⟩ := hSw; go_simp; try (with_reducible rfl))
      simp only [Act.put, List.setIfInBounds_toArray, List.set_cons_zero, List.set_cons_succ]
      refine wpAnyH_take (i := 1) (oi := ⟨some 57, _, _, _, _, _⟩) (v := ?_) rfl (by kernel_rfl) (by kernel_rfl) (by kernel_rfl) (fun _ _ _ h => h) (Or.inl ⟨by rfl, ?_⟩) hS0 ?_
      rotate_left
      · (intro w' hSw; obtain ⟨s0, s1, s2⟩ := hSw; go_simp; try (with_reducible rfl))
      simp only [Act.put, List.setIfInBounds_toArray, List.set_cons_zero, List.set_cons_succ]
      refine wpAnyH_take (i := 2) (oi := ⟨some 58, _, _, _, _, _⟩) (v := ?_) rfl (by kernel_rfl) (by kernel_rfl) (by kernel_rfl) (fun _ _ _ h => h) (Or.inl ⟨by rfl, ?_⟩) hS0 ?_
      rotate_left
      · (intro w' hSw; obtain ⟨s0, s1, s2⟩ := hSw; go_simp; try (with_reducible rfl))
      simp only [Act.put, List.setIfInBounds_toArray, List.set_cons_zero, List.set_cons_succ]
      refine wpAnyH_take (i := 3) (oi := ⟨some 59, _, _, _, _, _⟩) (v := ?_) rfl (by kernel_rfl) (by kernel_rfl) (by kernel_rfl) (fun _ _ _ h => h) (Or.inl ⟨by rfl, ?_⟩) hS0 ?_
      rotate_left
      · (intro w' hSw; obtain ⟨s0, s1, s2⟩ := hSw; go_simp; try (with_reducible rfl))
      simp only [Act.put, List.setIfInBounds_toArray, List.set_cons_zero, List.set_cons_succ]
      refine wpAnyH_take (i := 4) (oi := ⟨some 60, _, _, _, _, _⟩) (v := ?_) rfl (by kernel_rfl) (by kernel_rfl) (by kernel_rfl) (fun _ _ _ h => h) (Or.inl ⟨by rfl, ?_⟩) hS0 ?_
      rotate_left
      · (intro w' hSw; obtain ⟨s0, s1, s2⟩ := hSw; go_simp; try (with_reducible rfl))
      simp only [Act.put, List.setIfInBounds_toArray, List.set_cons_zero, List.set_cons_succ]
      refine wpAnyH_take (i := 5) (oi := ⟨some 61, _, _, _, _, _⟩) (v := ?_) rfl (by kernel_rfl) (by kernel_rfl) (by kernel_rfl) (fun _ _ _ h => h) (Or.inl ⟨by rfl, ?_⟩) hS0 ?_
      rotate_left
      · (intro w' hSw; obtain ⟨s0, s1, s2⟩ := hSw; go_simp; try (with_reducible rfl))
      simp only [Act.put, List.setIfInBounds_toArray, List.set_cons_zero, List.set_cons_succ]
      refine wpAnyH_take (i := 6) (oi := ⟨some 62, _, _, _, _, _⟩) (v := ?_) rfl (by kernel_rfl) (by kernel_rfl) (by kernel_rfl) (fun _ _ _ h => h) (Or.inl ⟨by rfl, ?_⟩) hS0 ?_
      rotate_left
      · (intro w' hSw; obtain ⟨s0, s1, s2⟩ := hSw; go_simp; try (with_reducible rfl))
      simp only [Act.put, List.setIfInBounds_toArray, List.set_cons_zero, List.set_cons_succ]
      refine wpAnyH_all (rs := [7]) (by kernel_rfl) (by simp) ?_
      intro i hi
      rw [List.mem_singleton] at hi
      subst hi
      refine wpOp_runG (o := ⟨some 63, _, _, _, _, _⟩) rfl rfl fun K' hK => ?_
      go_simp
      refine (HM.out _ (ext_drew w6)).mono ?_
      rintro e w7 ⟨rfl, hx, hy⟩
      have hS7 : w7.cell? ⟨nt, 1, none⟩ = some (.func (.func 42) #[.pointer (some ⟨rb, 0, none⟩)] #[]) ∧ w7.cell? ⟨b, off, none⟩ = some (.string (bs k)) ∧ True :=
        ⟨(hy.cell (World.block_lt_of_cell? w6.drew _ hS0.1) HNE.out.1 _).trans hS0.1, (hy.cell (World.block_lt_of_cell? w6.drew _ hS0.2.1) HNE.out.2 _).trans hS0.2.1, trivial⟩
      refine hK _ _ ⟨hS7, ?_⟩
      clear hK K' hS0
      have hS0 := hS7
      have HX := Lib.hid hx
      have HY := Lib.hid hy
      clear hx hy hS7
      try simp only [Act.put, List.setIfInBounds_toArray, List.set_cons_zero, List.set_cons_succ]
      refine wpAnyH_take (i := 8) (oi := ⟨some 4, _, _, _, _, _⟩) (v := ?_) rfl (by kernel_rfl) (by kernel_rfl) (by kernel_rfl) (fun _ _ _ h => h) (Or.inl ⟨by rfl, ?_⟩) hS0 ?_
      rotate_left
      · (intro w' hSw; obtain ⟨s0, s1, s2⟩ := hSw; go_simp; try (with_reducible rfl))
      simp only [Act.put, List.setIfInBounds_toArray, List.set_cons_zero, List.set_cons_succ]
      refine wpAnyH_done (by kernel_rfl) ?_ _
      go_wp2_with fail
      go_ret
      refine ⟨rfl, fun h => ?_, ?_⟩
      · obtain ⟨so', sc', g', h1, h2⟩ := HX.out h
        exact ⟨so', sc', g', h1, h2.imp id (fun h b hb => Nat.le_trans HZ.out (h b hb))⟩
      · exact (HO6.out.trans (Only.of_below (ext_drew w6)) (fun _ _ h => h)).trans HY.out (fun i _ h => h.imp id .inr)
    by_cases k3 : k = kSource
    · have hone : ws.length = 1 := by rw [← hn1, ← hn2, k3]; decide
      obtain ⟨s, hs⟩ : ∃ s, ws = [s] := List.length_eq_one_iff.1 hone
      rw [show takeFn k = 43 by rw [k3]; decide] at HS6
      have HM := Lib.hid (show ∀ W, Below w6.heap.size w6 W → Calls Try.prog 43 #[.pointer (some ⟨rb, 0, none⟩), .string (bs k), .slice (some ⟨b, off + 1, none⟩) ws.length (lc - 1)] W (MethRet rb mb tb (met ++ [k]) RR g W) from fun W hB => by
        have hl := L6.out.ext hB
        rw [← HR2.out, if_neg k1, if_neg k2, if_pos k3, hs]
        rw [hs] at hl
        exact jsource_any19 rb mb tb j hfew so sc g (met ++ [k]) W (HR6.out.ext hB) k s (hfw s (by rw [hs]; simp)) _ _ hl)
      clear hfw hn1 hn0 hn2 k1 k2 k3 hone hs
      have hq1 : (1 : Int) ≤ (ws.length : Int) + 1 := by omega
      have hq2 : ¬ lc = 1 := by have := HLc.out.1; have := Hwl.out; omega
      go_upto_region 8 with fail
      refine wp_region_held (S := fun W => W.cell? ⟨nt, 1, none⟩ = some (.func (.func 43) #[.pointer (some ⟨rb, 0, none⟩)] #[]) ∧ W.cell? ⟨b, off, none⟩ = some (.string (bs k)) ∧ True) (by kernel_rfl) ?_
      have hS0 := HS6.out _ (ext_drew w6)
      change wpAnyH _ _ _ _ _ _ _ _ (World.drew _)
      refine wpAnyH_take (i := 0) (oi := ⟨some 56, _, _, _, _, _⟩) (v := ?_) rfl (by kernel_rfl) (by kernel_rfl) (by kernel_rfl) (fun _ _ _ h => h) (Or.inl ⟨by rfl, ?_⟩) hS0 ?_
      rotate_left
      · (intro w' hSw; obtain ⟨s0, s1, s2⟩ := hSw; go_simp; try (with_reducible rfl))
      simp only [Act.put, List.setIfInBounds_toArray, List.set_cons_zero, List.set_cons_succ]
      refine wpAnyH_take (i := 1) (oi := ⟨some 57, _, _, _, _, _⟩) (v := ?_) rfl (by kernel_rfl) (by kernel_rfl) (by kernel_rfl) (fun _ _ _ h => h) (Or.inl ⟨by rfl, ?_⟩) hS0 ?_
      rotate_left
      · (intro w' hSw; obtain ⟨s0, s1, s2⟩ := hSw; go_simp; try (with_reducible rfl))
      simp only [Act.put, List.setIfInBounds_toArray, List.set_cons_zero, List.set_cons_succ]
      refine wpAnyH_take (i := 2) (oi := ⟨some 58, _, _, _, _, _⟩) (v := ?_) rfl (by kernel_rfl) (by kernel_rfl) (by kernel_rfl) (fun _ _ _ h => h) (Or.inl ⟨by rfl, ?_⟩) hS0 ?_
      rotate_left
      · (intro w' hSw; obtain ⟨s0, s1, s2⟩ := hSw; go_simp; try (with_reducible rfl))
      simp only [Act.put, List.setIfInBounds_toArray, List.set_cons_zero, List.set_cons_succ]
      refine wpAnyH_take (i := 3) (oi := ⟨some 59, _, _, _, _, _⟩) (v := ?_) rfl (by kernel_rfl) (by kernel_rfl) (by kernel_rfl) (fun _ _ _ h => h) (Or.inl ⟨by rfl, ?_⟩) hS0 ?_
      rotate_left
      · (intro w' hSw; obtain ⟨s0, s1, s2⟩ := hSw; go_simp; try (with_reducible rfl))
      simp only [Act.put, List.setIfInBounds_toArray, List.set_cons_zero, List.set_cons_succ]
      refine wpAnyH_take (i := 4) (oi := ⟨some 60, _, _, _, _, _⟩) (v := ?_) rfl (by kernel_rfl) (by kernel_rfl) (by kernel_rfl) (fun _ _ _ h => h) (Or.inl ⟨by rfl, ?_⟩) hS0 ?_
      rotate_left
      · (intro w' hSw; obtain ⟨s0, s1, s2⟩ := hSw; go_simp; try (with_reducible rfl))
      simp only [Act.put, List.setIfInBounds_toArray, List.set_cons_zero, List.set_cons_succ]
      refine wpAnyH_take (i := 5) (oi := ⟨some 61, _, _, _, _, _⟩) (v := ?_) rfl (by kernel_rfl) (by kernel_rfl) (by kernel_rfl) (fun _ _ _ h => h) (Or.inl ⟨by rfl, ?_⟩) hS0 ?_
      rotate_left
      · (intro w' hSw; obtain ⟨s0, s1, s2⟩ := hSw; go_simp; try (with_reducible rfl))
      simp only [Act.put, List.setIfInBounds_toArray, List.set_cons_zero, List.set_cons_succ]
      refine wpAnyH_take (i := 6) (oi := ⟨some 62, _, _, _, _, _⟩) (v := ?_) rfl (by kernel_rfl) (by kernel_rfl) (by kernel_rfl) (fun _ _ _ h => h) (Or.inl ⟨by rfl, ?_⟩) hS0 ?_
      rotate_left
      · (intro w' hSw; obtain ⟨s0, s1, s2⟩ := hSw; go_simp; try (with_reducible rfl))
      simp only [Act.put, List.setIfInBounds_toArray, List.set_cons_zero, List.set_cons_succ]
      refine wpAnyH_all (rs := [7]) (by kernel_rfl) (by simp) ?_
      intro i hi
      rw [List.mem_singleton] at hi
      subst hi
      refine wpOp_runG (o := ⟨some 63, _, _, _, _, _⟩) rfl rfl fun K' hK => ?_
      go_simp
      refine (HM.out _ (ext_drew w6)).mono ?_
      rintro e w7 ⟨rfl, hx, hy⟩
      have hS7 : w7.cell? ⟨nt, 1, none⟩ = some (.func (.func 43) #[.pointer (some ⟨rb, 0, none⟩)] #[]) ∧ w7.cell? ⟨b, off, none⟩ = some (.string (bs k)) ∧ True :=
        ⟨(hy.cell (World.block_lt_of_cell? w6.drew _ hS0.1) HNE.out.1 _).trans hS0.1, (hy.cell (World.block_lt_of_cell? w6.drew _ hS0.2.1) HNE.out.2 _).trans hS0.2.1, trivial⟩
      refine hK _ _ ⟨hS7, ?_⟩
      clear hK K' hS0
      have hS0 := hS7
      have HX := Lib.hid hx
      have HY := Lib.hid hy
      clear hx hy hS7
      try simp only [Act.put, List.setIfInBounds_toArray, List.set_cons_zero, List.set_cons_succ]
      refine wpAnyH_take (i := 8) (oi := ⟨some 4, _, _, _, _, _⟩) (v := ?_) rfl (by kernel_rfl) (by kernel_rfl) (by kernel_rfl) (fun _ _ _ h => h) (Or.inl ⟨by rfl, ?_⟩) hS0 ?_
      rotate_left
      · (intro w' hSw; obtain ⟨s0, s1, s2⟩ := hSw; go_simp; try (with_reducible rfl))
      simp only [Act.put, List.setIfInBounds_toArray, List.set_cons_zero, List.set_cons_succ]
      refine wpAnyH_done (by kernel_rfl) ?_ _
      go_wp2_with fail
      go_ret
      refine ⟨rfl, fun h => ?_, ?_⟩
      · obtain ⟨so', sc', g', h1, h2⟩ := HX.out h
        exact ⟨so', sc', g', h1, h2.imp id (fun h b hb => Nat.le_trans HZ.out (h b hb))⟩
      · exact (HO6.out.trans (Only.of_below (ext_drew w6)) (fun _ _ h => h)).trans HY.out (fun i _ h => h.imp id .inr)
    · have hw3 : wantsJ k = (entryJ k).length := by unfold wantsJ; rw [if_neg (by simp [k1, k2, k3])]
      obtain ⟨e, he, hek, hen⟩ : ∃ e ∈ numTab, e.1 = k ∧ entryJ k = e.2 := (entry_cases k).resolve_left (fun h => hn0 (by rw [← hn2, hw3, h]; rfl))
      have hwe : ws.length = e.2.length := by rw [← hn1, ← hn2, hw3, hen]
      rw [show takeFn k = 44 by unfold takeFn; rw [if_neg k1, if_neg k2, if_neg k3]] at HS6
      have HM := Lib.hid (show ∀ W, Below w6.heap.size w6 W → Calls Try.prog 44 #[.pointer (some ⟨rb, 0, none⟩), .string (bs k), .slice (some ⟨b, off + 1, none⟩) ws.length (lc - 1)] W (MethRet rb mb tb (met ++ [k]) RR g W) from fun W hB => by
        have hl := L6.out.ext hB
        rw [hwe] at hl
        rw [← HR2.out, if_neg k1, if_neg k2, if_neg k3, hwe]
        unfold numsJ
        rw [hen, ← hek]
        rw [← hek] at HR6
        exact jnumbers_any rb mb tb j so sc g (met ++ [e.1]) W (HR6.out.ext hB) e he ws hwe hfw _ _ hl)
      clear hfw hn1 hn0 hn2 k1 k2 k3 hw3 he hek hen hwe
      have hq1 : (1 : Int) ≤ (ws.length : Int) + 1 := by omega
      have hq2 : ¬ lc = 1 := by have := HLc.out.1; have := Hwl.out; omega
      go_upto_region 8 with fail
      refine wp_region_held (S := fun W => W.cell? ⟨nt, 1, none⟩ = some (.func (.func 44) #[.pointer (some ⟨rb, 0, none⟩)] #[]) ∧ W.cell? ⟨b, off, none⟩ = some (.string (bs k)) ∧ True) (by kernel_rfl) ?_
      have hS0 := HS6.out _ (ext_drew w6)
      change wpAnyH _ _ _ _ _ _ _ _ (World.drew _)
      refine wpAnyH_take (i := 0) (oi := ⟨some 56, _, _, _, _, _⟩) (v := ?_) rfl (by kernel_rfl) (by kernel_rfl) (by kernel_rfl) (fun _ _ _ h => h) (Or.inl ⟨by rfl, ?_⟩) hS0 ?_
      rotate_left
      · (intro w' hSw; obtain ⟨s0, s1, s2⟩ := hSw; go_simp; try (with_reducible rfl))
      simp only [Act.put, List.setIfInBounds_toArray, List.set_cons_zero, List.set_cons_succ]
      refine wpAnyH_take (i := 1) (oi := ⟨some 57, _, _, _, _, _⟩) (v := ?_) rfl (by kernel_rfl) (by kernel_rfl) (by kernel_rfl) (fun _ _ _ h => h) (Or.inl ⟨by rfl, ?_⟩) hS0 ?_
      rotate_left
      · (intro w' hSw; obtain ⟨s0, s1, s2⟩ := hSw; go_simp; try (with_reducible rfl))
      simp only [Act.put, List.setIfInBounds_toArray, List.set_cons_zero, List.set_cons_succ]
      refine wpAnyH_take (i := 2) (oi := ⟨some 58, _, _, _, _, _⟩) (v := ?_) rfl (by kernel_rfl) (by kernel_rfl) (by kernel_rfl) (fun _ _ _ h => h) (Or.inl ⟨by rfl, ?_⟩) hS0 ?_
      rotate_left
      · (intro w' hSw; obtain ⟨s0, s1, s2⟩ := hSw; go_simp; try (with_reducible rfl))
      simp only [Act.put, List.setIfInBounds_toArray, List.set_cons_zero, List.set_cons_succ]
      refine wpAnyH_take (i := 3) (oi := ⟨some 59, _, _, _, _, _⟩) (v := ?_) rfl (by kernel_rfl) (by kernel_rfl) (by kernel_rfl) (fun _ _ _ h => h) (Or.inl ⟨by rfl, ?_⟩) hS0 ?_
      rotate_left
      · (intro w' hSw; obtain ⟨s0, s1, s2⟩ := hSw; go_simp; try (with_reducible rfl))
      simp only [Act.put, List.setIfInBounds_toArray, List.set_cons_zero, List.set_cons_succ]
      refine wpAnyH_take (i := 4) (oi := ⟨some 60, _, _, _, _, _⟩) (v := ?_) rfl (by kernel_rfl) (by kernel_rfl) (by kernel_rfl) (fun _ _ _ h => h) (Or.inl ⟨by rfl, ?_⟩) hS0 ?_
      rotate_left
      · (intro w' hSw; obtain ⟨s0, s1, s2⟩ := hSw; go_simp; try (with_reducible rfl))
      simp only [Act.put, List.setIfInBounds_toArray, List.set_cons_zero, List.set_cons_succ]
      refine wpAnyH_take (i := 5) (oi := ⟨some 61, _, _, _, _, _⟩) (v := ?_) rfl (by kernel_rfl) (by kernel_rfl) (by kernel_rfl) (fun _ _ _ h => h) (Or.inl ⟨by rfl, ?_⟩) hS0 ?_
      rotate_left
      · (intro w' hSw; obtain ⟨s0, s1, s2⟩ := hSw; go_simp; try (with_reducible rfl))
      simp only [Act.put, List.setIfInBounds_toArray, List.set_cons_zero, List.set_cons_succ]
      refine wpAnyH_take (i := 6) (oi := ⟨some 62, _, _, _, _, _⟩) (v := ?_) rfl (by kernel_rfl) (by kernel_rfl) (by kernel_rfl) (fun _ _ _ h => h) (Or.inl ⟨by rfl, ?_⟩) hS0 ?_
      rotate_left
      · (intro w' hSw; obtain ⟨s0, s1, s2⟩ := hSw; go_simp; try (with_reducible rfl))
      simp only [Act.put, List.setIfInBounds_toArray, List.set_cons_zero, List.set_cons_succ]
      refine wpAnyH_all (rs := [7]) (by kernel_rfl) (by simp) ?_
      intro i hi
      rw [List.mem_singleton] at hi
      subst hi
      refine wpOp_runG (o := ⟨some 63, _, _, _, _, _⟩) rfl rfl fun K' hK => ?_
      go_simp
      refine (HM.out _ (ext_drew w6)).mono ?_
      rintro e w7 ⟨rfl, hx, hy⟩
      have hS7 : w7.cell? ⟨nt, 1, none⟩ = some (.func (.func 44) #[.pointer (some ⟨rb, 0, none⟩)] #[]) ∧ w7.cell? ⟨b, off, none⟩ = some (.string (bs k)) ∧ True :=
        ⟨(hy.cell (World.block_lt_of_cell? w6.drew _ hS0.1) HNE.out.1 _).trans hS0.1, (hy.cell (World.block_lt_of_cell? w6.drew _ hS0.2.1) HNE.out.2 _).trans hS0.2.1, trivial⟩
      refine hK _ _ ⟨hS7, ?_⟩
      clear hK K' hS0
      have hS0 := hS7
      have HX := Lib.hid hx
      have HY := Lib.hid hy
      clear hx hy hS7
      try simp only [Act.put, List.setIfInBounds_toArray, List.set_cons_zero, List.set_cons_succ]
      refine wpAnyH_take (i := 8) (oi := ⟨some 4, _, _, _, _, _⟩) (v := ?_) rfl (by kernel_rfl) (by kernel_rfl) (by kernel_rfl) (fun _ _ _ h => h) (Or.inl ⟨by rfl, ?_⟩) hS0 ?_
      rotate_left
      · (intro w' hSw; obtain ⟨s0, s1, s2⟩ := hSw; go_simp; try (with_reducible rfl))
      simp only [Act.put, List.setIfInBounds_toArray, List.set_cons_zero, List.set_cons_succ]
      refine wpAnyH_done (by kernel_rfl) ?_ _
      go_wp2_with fail
      go_ret
      refine ⟨rfl, fun h => ?_, ?_⟩
      · obtain ⟨so', sc', g', h1, h2⟩ := HX.out h
        exact ⟨so', sc', g', h1, h2.imp id (fun h b hb => Nat.le_trans HZ.out (h b hb))⟩
      · exact (HO6.out.trans (Only.of_below (ext_drew w6)) (fun _ _ h => h)).trans HY.out (fun i _ h => h.imp id .inr)
end Go.Proofs.Ytmflopeedofkhaa

namespace Go.Proofs.Ytmflopeedofkhaa
set_option linter.unusedSimpArgs false
set_option linter.unusedVariables false
set_option maxRecDepth 100000
open Go.RowKit

def rdr0 (mb : Nat) : Array Value := jobCs beginJ none 0 ++ #[.map (some mb), .map none]
theorem rdr0_lay (x : Nat) : (Array.foldl (fun (cs : Array Value) (x : Value × Nat) => cs.setIfInBounds x.snd x.fst) #[Value.int IntKind.u8 0, Value.int IntKind.u64 0, Value.int IntKind.u32 0, Value.int IntKind.u32 0, Value.slice none 0 0, Value.int IntKind.u32 0, Value.int IntKind.u32 0, Value.int IntKind.u32 0, Value.int IntKind.u32 0, Value.int IntKind.u32 0, Value.int IntKind.u32 0, Value.int IntKind.u32 0, Value.int IntKind.u32 0, Value.int IntKind.u32 0, Value.int IntKind.u32 0, Value.map none, Value.map none]
    (jobCs beginJ none 0).zipIdx 0 (jobCs beginJ none 0).size).setIfInBounds 15 (Value.map (some x)) = rdr0 x := by kernel_rfl
theorem mk57 (W : World) : (Instr.makeMap 57 none).run Try.prog W = .ok (.map (some W.heap.size)) (W.alloc (.map #[] 0)) := rfl
theorem mk58 (W : World) : (Instr.makeMap 58 none).run Try.prog W = .ok (.map (some W.heap.size)) (W.alloc (.map #[] 0)) := rfl
theorem NumsAt.move {T : TypeId} {jb jo : Nat} {w w' : World} {nb : Nat} {es : List MapEntry} (h : NumsAt T jb jo w nb es) {fp : Nat → Prop} (ho : Only fp w w') (hn : ¬ fp nb) (hc : ∀ b cs t fr, w.heap[b]? = some (.cells cs t fr) → ¬ fp b) : NumsAt T jb jo w' nb es :=
  ⟨h.map.keep (ho.same nb h.map.lt hn), h.born, h.borns, h.keys, h.all, fun x hx => by
    obtain ⟨e, he, b, h1, h2, h3⟩ := h.each x hx
    exact ⟨e, he, b, h1, h2, (ho.same b (Array.getElem?_eq_some_iff.1 h3).1 (hc b _ _ _ h3)).trans h3⟩⟩
theorem numTab_take : ∀ e ∈ numTab, e.1 ≠ kWalk ∧ e.1 ≠ kSeed ∧ e.1 ≠ kSource ∧ entryJ e.1 = e.2 ∧ e.2 ≠ [] := by decide
theorem takeF_tab (rb : Nat) {e : W8 × List (Nat × Nat × Nat)} (he : e ∈ numTab) : takeF rb e.1 = some (takeV rb e.2.length 44) := by
  obtain ⟨h1, h2, h3, h4, h5⟩ := numTab_take e he
  unfold takeF
  rw [if_neg h1, if_neg h2, if_neg h3, h4, if_neg h5]
def f3 (rb : Nat) : W8 → Option Value := updF (updF (updF (fun _ => none) kWalk (takeV rb 1 41)) kSeed (takeV rb 1 42)) kSource (takeV rb 1 43)
def key3B (s : W8) : Prop := s = kWalk ∨ s = kSeed ∨ s = kSource
theorem f3_in (rb : Nat) : (∀ s v, f3 rb s = some v → takeF rb s = some v) ∧ ∀ s, key3B s → f3 rb s = takeF rb s := by
  constructor
  · intro s v h
    unfold f3 updF at h
    by_cases h3 : s = kSource
    · subst h3; simpa [takeF, kSource, kWalk, kSeed] using h
    · rw [if_neg h3] at h
      by_cases h2 : s = kSeed
      · subst h2; simpa [takeF, kSource, kWalk, kSeed] using h
      · rw [if_neg h2] at h
        by_cases h1 : s = kWalk
        · subst h1; simpa [takeF, kSource, kWalk, kSeed] using h
        · rw [if_neg h1] at h; cases h
  · rintro s (rfl | rfl | rfl) <;> simp [f3, updF, takeF, kSource, kWalk, kSeed]
def begI (es : List MapEntry) (r nb tb rb : Nat) (wR wr : World) : Prop := ∃ seen f, IterIs wr r nb es.length seen ∧ Only (fun k => k = r ∨ k = tb) wR wr ∧ MapFn wr tb f ∧ (∀ s v, f s = some v → takeF rb s = some v) ∧ (∀ s, key3B s → f s = takeF rb s) ∧ ∀ x ∈ es, x.born ∈ seen → ∀ s, x.key = .string (bs s) → f s = takeF rb s
def BegRet (w : World) (e : Ending) (w' : World) : Prop := ∃ rb mb tb, e = .returned (.pointer (some ⟨rb, 0, none⟩)) ∧ Rdr rb mb tb beginJ none 0 none [] w' ∧ Below w.heap.size w w' ∧ w.heap.size ≤ rb ∧ w.heap.size ≤ mb ∧ w.heap.size ≤ tb
set_option maxRecDepth 100000 in
set_option maxHeartbeats 6400000 in
theorem jbegins_any (w : World) : Calls Try.prog 19 #[] w (BegRet w) := by
  have HBe := Lib.hid (fun W => jbegin_any W)
  have HNs := Lib.hid (fun rb W => numbers_any rb 0 W)
  have m57 := mk57
  have m58 := mk58
  unfold RetB at HBe
  go_enter Try.func19, Try.ntmps19
  go_upto_region 2 with (go_at_call 40; (with_reducible refine (HBe.out _).mono ?_); rintro e w1 ⟨rfl, hx⟩; have B1 := Lib.hid hx; clear hx)
  rw [rdr0_lay]
  rename_i hx1 hx2 hx3
  clear hx1 h
  obtain ⟨mb, hmb⟩ : ∃ mb, mb = w1.heap.size := ⟨_, rfl⟩
  obtain ⟨rb, hrb⟩ : ∃ rb, rb = w1.heap.size + 1 := ⟨_, rfl⟩
  rw [← hrb, ← hmb]
  obtain ⟨W0, hW0⟩ : ∃ W0, (w1.alloc (.map #[] 0)).alloc (.cells (rdr0 mb) 60) = W0 := ⟨_, rfl⟩
  rw [hW0]
  have hz : W0.heap.size = w1.heap.size + 2 := by rw [← hW0]; simp
  have hr0 : W0.heap[rb]? = some (.cells (rdr0 mb) 60 (0, 0)) := by rw [← hW0, hrb]; exact heap_alloc2_new _ _ _
  have hm0 : W0.heap[mb]? = some (.map #[] 0) := by rw [← hW0, hmb]; exact heap_alloc2_old _ _ _
  have hB0 : Below w1.heap.size w1 W0 := by rw [← hW0]; exact (ext_alloc _ _).alloc (by simp) _
  have HW := Lib.hid (And.intro hz (And.intro hmb hrb))
  have R0 := Lib.hid hr0
  have M0 := Lib.hid hm0
  have B0 := Lib.hid (B1.out.trans (hB0.mono B1.out.size))
  clear hW0 hz hr0 hm0 hB0 hmb hrb
  have hnt : W0.heap.size ≠ rb ∧ W0.heap.size ≠ mb ∧ w1.heap.size ≤ W0.heap.size := by have := HW.out; omega
  have HNT := Lib.hid hnt
  clear hnt
  obtain ⟨tb, htb⟩ : ∃ tb, tb = W0.heap.size := ⟨_, rfl⟩
  rw [← htb] at HNT
  have HTb := Lib.hid htb
  clear htb
  go_upto_region 3 with (first
    | (refine wpList_insert rfl _ _ _ _ rfl Try.underlying58 Try.underlying9 rfl (s := kWalk) (val := takeV rb 1 41) rfl rfl (MapFn.new (heap_alloc_new _ _)) ?_; intro w2 h2 o2 z2; have H2 := Lib.hid h2; have O2 := Lib.hid o2; have Z2 := Lib.hid z2; clear h2 o2 z2)
    | (refine wpList_insert rfl _ _ _ _ rfl Try.underlying58 Try.underlying9 rfl (s := kSeed) (val := takeV rb 1 42) rfl rfl H2.out ?_; intro w3 h3 o3 z3; have H3 := Lib.hid h3; have O3 := Lib.hid o3; have Z3 := Lib.hid z3; clear h3 o3 z3)
    | (refine wpList_insert rfl _ _ _ _ rfl Try.underlying58 Try.underlying9 rfl (s := kSource) (val := takeV rb 1 43) rfl rfl H3.out ?_; intro w4 h4 o4 z4; have hO := ((O2.out.trans O3.out (fun _ _ h => h)).trans o4 (fun _ _ h => h)); have hr4 := (hO.same rb (by have := HW.out; simp; omega) (by have := HTb.out; have := HNT.out; omega)).trans ((Below.heap_alloc _ _ _ (by have := HW.out; omega)).trans R0.out); have c16 := (cell_of_row _ rb 16 _ _ _ hr4).trans (show (rdr0 mb)[16]? = some (.map none) from rfl); have f16 := frozen_of_row w4 rb 16 _ _ hr4; have H4 := Lib.hid h4; have O4 := Lib.hid hO; have R4 := Lib.hid hr4; clear h4 o4 z4 hO hr4))
  have hset : (rdr0 mb).setIfInBounds 16 (.map (some tb)) = rdrCs beginJ none 0 mb tb := by rfl
  have row5 := row_set19 R4.out 16 (.map (some tb))
  rw [hset] at row5
  have met5 : MapFn (w4.setCell ⟨rb, 16, none⟩ (.map (some tb))) mb (metF []) := by
    have h := (MapFn.new (w := W0) (b := mb) M0.out).keep (w' := w4.setCell ⟨rb, 16, none⟩ (.map (some tb))) ((Below.heap_setCell _ _ _ _ (by have := HW.out; show mb ≠ rb; omega)).trans ((O4.out.same mb (by have := HW.out; simp; omega) (by have := HTb.out; have := HNT.out; omega)).trans (Below.heap_alloc _ _ _ (by have := HW.out; omega))))
    have e : (fun _ => none : W8 → Option Value) = metF [] := by funext s; simp [metF]
    rw [← e]; exact h
  have tak5 : MapFn (w4.setCell ⟨rb, 16, none⟩ (.map (some tb))) tb (f3 rb) := by
    have h := H4.out.keep (w' := w4.setCell ⟨rb, 16, none⟩ (.map (some tb))) (Below.heap_setCell _ _ _ _ (by have := HTb.out; have := HNT.out; show W0.heap.size ≠ rb; omega))
    rw [← HTb.out] at h
    exact h
  have B5 : Below w.heap.size w (w4.setCell ⟨rb, 16, none⟩ (.map (some tb))) := ((B0.out.alloc B0.out.size _).trans (O4.out.below (by have := B0.out.size; simp; omega) (fun k hk e => by have := B0.out.size; omega))).setCell (p := ⟨rb, 16, none⟩) (by have := B1.out.size; have := HW.out; show w.heap.size ≤ rb; omega) _
  rw [HTb.out] at row5 met5 tak5 B5
  generalize w4.setCell ⟨rb, 16, none⟩ (.map (some W0.heap.size)) = w5 at row5 met5 tak5 B5
  rw [← HTb.out] at row5 tak5
  have Row5 := Lib.hid row5
  have Met5 := Lib.hid met5
  have Tak5 := Lib.hid tak5
  have HB5 := Lib.hid B5
  clear hset row5 met5 tak5 B5 c16 f16 H2 H3 H4 O2 O3 O4 Z2 Z3 R4
  have hmt5 := map_ne Tak5.out Row5.out
  have hmm5 := map_ne Met5.out Row5.out
  have Hne := Lib.hid (And.intro hmt5 hmm5)
  clear hmt5 hmm5
  go_wp2_with (first
    | (go_at_call 28; refine (HNs.out _ _).mono ?_; rintro e w6 ⟨nb, es, rfl, hx, hy, hz⟩; have Hnb := Lib.hid hx; have HNm := Lib.hid hy; have B6 := Lib.hid hz; clear hx hy hz)
    | (at_range; refine wpList_range_is rfl (.tmp 25) 66 rfl Try.underlying66 rfl HNm.out.map ?_))
  go_frame
  obtain ⟨wR, hwR⟩ : ∃ wR, wR = w6.alloc (.mapIter (some nb) es.length #[] es.length) := ⟨_, rfl⟩
  rw [← hwR]
  have BR : Below w5.heap.size w5 wR := by rw [hwR]; exact B6.out.alloc B6.out.size _
  have HIt := Lib.hid (show IterIs wR w6.heap.size nb es.length #[] by rw [hwR]; exact heap_alloc_new w6 _)
  have HNR := Lib.hid (HNm.out.ext (w' := wR) (by rw [hwR]; exact ext_alloc w6 _))
  have RowR := Lib.hid ((BR.block _ (blk_lt Row5.out)).trans Row5.out)
  have MetR := Lib.hid (Met5.out.ext BR)
  have TakR := Lib.hid (Tak5.out.ext BR)
  have HBR := Lib.hid (HB5.out.trans (BR.mono HB5.out.size))
  have HZ := Lib.hid (show w5.heap.size ≤ w6.heap.size ∧ rb < w5.heap.size ∧ mb < w5.heap.size ∧ tb < w5.heap.size from ⟨B6.out.size, blk_lt Row5.out, Met5.out.lt, Tak5.out.lt⟩)
  clear hwR BR
  go_loopw [2] (fun _ wr => begI es w6.heap.size nb tb rb wR wr) (fun _ wr => (leftOf es.toArray (wr.iterSeen w6.heap.size)).size)
  case atStart => exact ⟨#[], f3 rb, HIt.out, Only.refl _ _, TakR.out, (f3_in rb).1, (f3_in rb).2, fun x _ h => by simp at h⟩
  case round =>
    obtain ⟨seen, f, hit, hon, hmf, hf1, hf2, hf3⟩ := hrel
    have hcells : ∀ b cs t fr, wR.heap[b]? = some (.cells cs t fr) → ¬ (b = w6.heap.size ∨ b = tb) := fun b cs t fr h e => by
      rcases e with e | e
      · have := HIt.out; unfold IterIs at this; rw [e, this] at h; cases h
      · exact map_ne TakR.out h e.symm
    have HNr := Lib.hid (HNR.out.move hon (fun e => by have := HZ.out; have := Hnb.out; have := HNm.out.map.lt; rcases e with e | e <;> omega) hcells)
    have Rowr := Lib.hid ((hon.same rb (blk_lt RowR.out) (hcells _ _ _ _ RowR.out)).trans RowR.out)
    have Hit := Lib.hid hit
    have Hon := Lib.hid hon
    have Hmf := Lib.hid hmf
    have Hf1 := Lib.hid hf1
    have Hf2 := Lib.hid hf2
    have Hf3 := Lib.hid hf3
    clear hit hon hmf hf1 hf2 hf3 hcells
    go_wp2_with (at_next; refine wpList_next_is rfl (.tmp 26) rfl rfl Hit.out HNr.out.map HNr.out.born ?_ ?_)
    case refine_1 =>
      intro hl0
      have hfe : f = takeF rb := by
        funext s
        cases hs : takeF rb s with
        | none =>
          cases hs2 : f s with
          | none => rfl
          | some v => rw [Hf1.out s v hs2] at hs; cases hs
        | some v =>
          by_cases h3 : key3B s
          · rw [Hf2.out s h3, hs]
          · have he : entryJ s ≠ [] := fun e => by
              unfold takeF at hs
              rw [if_neg (fun e => h3 (.inl e)), if_neg (fun e => h3 (.inr (.inl e))), if_neg (fun e => h3 (.inr (.inr e))), if_pos e] at hs
              cases hs
            obtain ⟨e, hem, he1, _⟩ := (entry_cases s).resolve_left he
            obtain ⟨x, hx, hk⟩ := HNr.out.all e hem
            have hb : x.born ∈ seen := by
              by_cases hb : x.born ∈ seen
              · exact hb
              · have : x ∈ leftOf es.toArray seen := by simp [leftOf, hx, hb]
                rw [hl0] at this; simp at this
            rw [Hf3.out x hx hb s (by rw [← he1]; exact hk), hs]
      subst hfe
      clear hl0
      go_wp2_with fail
      go_ret
      have hw := HW.out
      have hb1 := B1.out.size
      refine ⟨rb, mb, tb, rfl, ⟨Rowr.out, ⟨rfl, .inl ⟨rfl, rfl, rfl, rfl⟩⟩, MetR.out.only Hon.out (fun e => ?_), Hmf.out, by simp, fun e => HNT.out.2.1 e.symm⟩, HBR.out.trans (Hon.out.below HBR.out.size (fun k hk e => ?_)), ?_, ?_, ?_⟩
      · have := HZ.out; have := HNT.out; omega
      · have := HZ.out; have := HNT.out; have := HB5.out.size; omega
      · omega
      · omega
      · have := HNT.out; omega
    case refine_2 =>
      rintro ⟨ky, vl, bn⟩ w8 he hit8 hon8 hs8
      have he := Array.mem_toList_iff.2 he
      obtain ⟨hm8, hns8⟩ := mem_left he
      have hm8' : (⟨ky, vl, bn⟩ : MapEntry) ∈ es := by simpa using hm8
      obtain ⟨ee, hee, b, hky, hvl, hbk⟩ := HNr.out.each _ hm8'
      simp only at hky hvl
      subst hky hvl
      have hrn : rb ≠ w6.heap.size := by have := HZ.out; omega
      have htn : tb ≠ w6.heap.size := by have := HZ.out; omega
      have HN8 := Lib.hid (HNr.out.move hon8 (fun e => by have h1 := Hit.out; have h2 := HNr.out.map; unfold IterIs at h1; unfold MapIs at h2; rw [e, h1] at h2; cases h2) (fun b cs t fr h e => by have h1 := Hit.out; unfold IterIs at h1; rw [e, h1] at h; cases h))
      have c16 : w8.cell? ⟨rb, 16, none⟩ = some (.map (some tb)) := (hon8.cell (blk_lt Rowr.out) hrn 16).trans ((cell_of_row _ _ _ _ _ _ Rowr.out).trans rfl)
      have Hmf8 := Lib.hid (Hmf.out.only hon8 htn)
      have Hit8 := Lib.hid hit8
      have Hon8 := Lib.hid hon8
      have He := Lib.hid he
      have Hm8 := Lib.hid hm8'
      have Hee := Lib.hid hee
      have Hbk := Lib.hid hbk
      clear hit8 hon8 he hm8 hm8' hns8 hee hbk hrn htn
      go_wp2_with (first
        | (refine wpList_entry_is rfl (.tmp 26) rfl rfl Hit8.out HN8.out.map Hm8.out HN8.out.borns ?_)
        | (refine wpList_update rfl _ _ _ _ rfl Try.underlying58 Try.underlying9 rfl (s := ee.1) (val := takeV rb ee.2.length 44) rfl rfl Hmf8.out ?_; intro w9 h9 o9 z9; have H9 := Lib.hid h9; have O9 := Lib.hid o9; clear h9 o9 z9))
      have hrt : w6.heap.size ≠ tb := by have := HZ.out; omega
      go_roundw
      case rel =>
        refine ⟨seen.push bn, _, Hit8.out.keep (O9.out.same _ Hit8.out.lt hrt), (Hon.out.trans Hon8.out (fun _ _ e => .inl e)).trans O9.out (fun _ _ e => .inr e), H9.out, fun s v hs => ?_, fun s h3 => ?_, fun x hx hb s hk => ?_⟩
        · unfold updF at hs
          by_cases e : s = ee.1
          · rw [if_pos e] at hs; rw [e, takeF_tab rb Hee.out, hs]
          · rw [if_neg e] at hs; exact Hf1.out s v hs
        · have hn := numTab_take _ Hee.out
          unfold updF
          rw [if_neg (fun e => by rw [e] at h3; rcases h3 with h | h | h; exact hn.1 h; exact hn.2.1 h; exact hn.2.2.1 h)]
          exact Hf2.out s h3
        · unfold updF
          by_cases e : s = ee.1
          · rw [if_pos e, e, takeF_tab rb Hee.out]
          · rw [if_neg e]
            rcases Array.mem_push.1 hb with h | h
            · exact Hf3.out x hx h s hk
            · rw [born_one HNr.out.borns hx Hm8.out h] at hk
              simp only at hk
              injection hk with hk
              exact absurd (bs_inj hk).symm e
      case measure =>
        rw [(Hit8.out.keep (O9.out.same _ Hit8.out.lt hrt)).iterSeen, Hit.out.iterSeen]
        exact left_shrinks es.toArray seen _ He.out
end Go.Proofs.Ytmflopeedofkhaa

namespace Go.Proofs.Ytmflopeedofkhaa
set_option linter.unusedSimpArgs false
set_option linter.unusedVariables false
set_option maxRecDepth 100000
open Go.RowKit

attribute [local go_sem] Oper.semAt_some

def RdF (s bx rb mb tb : Nat) (g : Option Nat) (k : Nat) : Prop := k = s ∨ k = s + 1 ∨ k = s + 1 + 1 ∨ k = bx ∨ k = rb ∨ k = mb ∨ k = tb ∨ g = some k
structure RdJ (s bx rb mb tb : Nat) (j : JobD) (so : Option Addr) (sc : Nat) (g : Option Nat) (met : List W8) (fq : Nat → Prop) (W : World) : Prop where
  rdr : Rdr rb mb tb j so sc g met W
  z : W.heap[s]? = some (.cells zeroCs 30 (0, 0))
  k1 : W.heap[s + 1]? = some (.cells #[.int .i64 0] 3 (0, 0))
  k2 : W.heap[s + 1 + 1]? = some (.cells #[.int .i64 0] 31 (0, 0))
  kb : W.heap[bx]? = some (.cells #[.pointer (some ⟨rb, 0, none⟩)] 49 (0, 0))
  f : ∀ k, RdF s bx rb mb tb g k → fq k
  gf : ∀ b, g = some b → bx < b
  ord : s + 1 + 1 < rb ∧ s + 1 + 1 < mb ∧ s + 1 + 1 < tb ∧ rb < bx ∧ mb < bx ∧ tb < bx
theorem RdJ.stays {s bx rb mb tb : Nat} {j : JobD} {so : Option Addr} {sc : Nat} {g : Option Nat} {met : List W8} {fq : Nat → Prop} {A B : World} (h : RdJ s bx rb mb tb j so sc g met fq A) (hs : Stays fq A B) : RdJ s bx rb mb tb j so sc g met fq B :=
  have e := fun k hk => hs.same k (h.f k hk)
  ⟨⟨(e rb (by simp [RdF])).trans h.rdr.row, h.rdr.src.stays hs (fun b hb => h.f b (by simp [RdF, hb])), h.rdr.met.keep (e mb (by simp [RdF])), h.rdr.tak.keep (e tb (by simp [RdF])), h.rdr.gn, h.rdr.mt⟩,
    (e s (by simp [RdF])).trans h.z, (e (s + 1) (by simp [RdF])).trans h.k1, (e (s + 1 + 1) (by simp [RdF])).trans h.k2, (e bx (by simp [RdF])).trans h.kb, h.f, h.gf, h.ord⟩
theorem RdJ.ext {s bx rb mb tb : Nat} {j : JobD} {so : Option Addr} {sc : Nat} {g : Option Nat} {met : List W8} {fq : Nat → Prop} {A B : World} (h : RdJ s bx rb mb tb j so sc g met fq A) (hB : Below A.heap.size A B) : RdJ s bx rb mb tb j so sc g met fq B :=
  ⟨h.rdr.ext hB, (hB.block _ (blk_lt h.z)).trans h.z, (hB.block _ (blk_lt h.k1)).trans h.k1, (hB.block _ (blk_lt h.k2)).trans h.k2, (hB.block _ (blk_lt h.kb)).trans h.kb, h.f, h.gf, h.ord⟩
def rdJ (RR : JobD × Nat × Nat) (ls : List W8) (s bx rb mb tb : Nat) (pre : List (Nat × List UInt8)) (fq : Nat → Prop) (W : World) : Prop :=
  ∃ (j : JobD) (so : Option Addr) (sc : Nat) (g : Option Nat) (met : List W8), RdJ s bx rb mb tb j so sc g met fq W ∧ readJGo j met pre.length (ls.drop pre.length) = RR ∧ InJ j
def rdX (RR : JobD × Nat × Nat) (s : Nat) (c : Code) (fq : Nat → Prop) (W : World) : Prop :=
  c = .ret ∧ ∃ n e : Nat, RR = (zeroJ, n, e) ∧ (W.heap[s]? = some (.cells zeroCs 30 (0, 0)) ∧ W.heap[s + 1]? = some (.cells #[.int .i64 (n : Nat)] 3 (0, 0)) ∧ W.heap[s + 1 + 1]? = some (.cells #[.int .i64 (e : Nat)] 31 (0, 0))) ∧ fq s ∧ fq (s + 1) ∧ fq (s + 1 + 1)
theorem rdX.stays {RR : JobD × Nat × Nat} {s : Nat} {c : Code} {fq : Nat → Prop} {A B : World} (h : rdX RR s c fq A) (hs : Stays fq A B) : rdX RR s c fq B := by
  obtain ⟨h0, n, e, h1, ⟨c0, c1, c2⟩, q0, q1, q2⟩ := h
  exact ⟨h0, n, e, h1, ⟨(hs.same _ q0).trans c0, (hs.same _ q1).trans c1, (hs.same _ q2).trans c2⟩, q0, q1, q2⟩
theorem rd_keep {s bx rb mb tb : Nat} {fq : Nat → Prop} {W2 W3 : World} {j : JobD} {so : Option Addr} {sc : Nat} {g : Option Nat} {met : List W8} (hJ : RdJ s bx rb mb tb j so sc g met fq W2) (ho : Only (fun k => k = rb ∨ k = mb ∨ g = some k) W2 W3) :
    W3.heap[s]? = some (.cells zeroCs 30 (0, 0)) ∧ W3.heap[s + 1]? = some (.cells #[.int .i64 0] 3 (0, 0)) ∧ W3.heap[s + 1 + 1]? = some (.cells #[.int .i64 0] 31 (0, 0)) := by
  have hord := hJ.ord
  have keep : ∀ k, k < rb → k < mb → k < W2.heap.size → k < bx → W3.heap[k]? = W2.heap[k]? := fun k hk hk2 hl hb => ho.same k hl (fun e => by
    rcases e with e | e | e
    · omega
    · omega
    · have := hJ.gf k e; omega)
  exact ⟨(keep s (by omega) (by omega) (blk_lt hJ.z) (by omega)).trans hJ.z, (keep _ (by omega) (by omega) (blk_lt hJ.k1) (by omega)).trans hJ.k1, (keep _ (by omega) (by omega) (blk_lt hJ.k2) (by omega)).trans hJ.k2⟩
theorem rd_skip {RR : JobD × Nat × Nat} {ls : List W8} {s bx rb mb tb : Nat} {pre : List (Nat × List UInt8)} {xp : Nat × List UInt8} {fq tp : Nat → Prop} {W W2 : World} {j : JobD} {so : Option Addr} {sc : Nat} {g : Option Nat} {met : List W8}
    (hJ : RdJ s bx rb mb tb j so sc g met fq W) (hgo : readJGo j met (pre.length + 1) (ls.drop (pre.length + 1)) = RR) (hin : InJ j) (hfl : ∀ k, fq k → k < W.heap.size) (hB : Below W.heap.size W W2) :
    ∃ fp', FwdT fq tp fp' W W2 ∧ rdJ RR ls s bx rb mb tb (pre ++ [xp]) fp' W2 :=
  ⟨fq, FwdT.const (Only.of_below hB) hfl, j, so, sc, g, met, hJ.ext hB, by simpa using hgo, hin⟩
theorem rd_more {RR : JobD × Nat × Nat} {ls : List W8} {s bx rb mb tb : Nat} {pre : List (Nat × List UInt8)} {xp : Nat × List UInt8} {fq tp : Nat → Prop} {W W2 W3 : World} {j j1 : JobD} {so so1 : Option Addr} {sc sc1 : Nat} {g g1 : Option Nat} {met met1 : List W8}
    (hJ : RdJ s bx rb mb tb j so sc g met fq W) (hgo : readJGo j1 met1 (pre.length + 1) (ls.drop (pre.length + 1)) = RR) (hin : InJ j1) (hfl : ∀ k, fq k → k < W.heap.size) (hB : Below W.heap.size W W2)
    (hR : Rdr rb mb tb j1 so1 sc1 g1 met1 W3) (hg : g1 = g ∨ ∀ b, g1 = some b → W2.heap.size ≤ b) (ho : Only (fun k => k = rb ∨ k = mb ∨ g = some k) W2 W3) :
    ∃ fp', FwdT fq tp fp' W W3 ∧ rdJ RR ls s bx rb mb tb (pre ++ [xp]) fp' W3 := by
  have hz := hB.size
  have hz3 := ho.size
  have hJ2 := hJ.ext hB
  have hord := hJ.ord
  have hlt := fun k (h : RdF s bx rb mb tb g k) => Nat.lt_of_lt_of_le (hfl k (hJ.f k h)) hz
  have hbx := hlt bx (by simp [RdF])
  have hge : ∀ b, g1 = some b → bx < b := fun b hb => by
    rcases hg with h | h
    · exact hJ.gf b (h ▸ hb)
    · have := h b hb; omega
  have keep : ∀ k, k < bx + 1 → k ≠ rb → k ≠ mb → W3.heap[k]? = W2.heap[k]? := fun k hk h1 h2 => ho.same k (by omega) (fun e => by
    rcases e with e | e | e
    · exact h1 e
    · exact h2 e
    · have := hJ.gf k e; omega)
  refine ⟨RdF s bx rb mb tb g1, ⟨(Only.of_below hB).trans ho (fun k _ h => hJ.f k (by rcases h with h | h | h <;> simp [RdF, h])), fun k hk => ?_⟩, j1, so1, sc1, g1, met1, ⟨hR, (keep s (by omega) (by omega) (by omega)).trans hJ2.z, (keep (s + 1) (by omega) (by omega) (by omega)).trans hJ2.k1, (keep (s + 1 + 1) (by omega) (by omega) (by omega)).trans hJ2.k2, (keep bx (by omega) (by omega) (by omega)).trans hJ2.kb, fun _ h => h, hge, hord⟩, by simpa using hgo, hin⟩
  rcases hk with h | h | h | h | h | h | h | h
  · exact ⟨.inl (hJ.f k (by simp [RdF, h])), by omega⟩
  · exact ⟨.inl (hJ.f k (by simp [RdF, h])), by omega⟩
  · exact ⟨.inl (hJ.f k (by simp [RdF, h])), by omega⟩
  · exact ⟨.inl (hJ.f k (by simp [RdF, h])), by omega⟩
  · exact ⟨.inl (hJ.f k (by simp [RdF, h])), by omega⟩
  · exact ⟨.inl (hJ.f k (by simp [RdF, h])), by omega⟩
  · exact ⟨.inl (hJ.f k (by simp [RdF, h])), by omega⟩
  · refine ⟨?_, hR.src.lt k h⟩
    rcases hg with h2 | h2
    · exact .inl (hJ.f k (by simp [RdF, ← h2, h]))
    · exact .inr (.inr (Nat.le_trans hz (h2 k h)))
theorem rd_break {RR : JobD × Nat × Nat} {s bx rb mb tb n e : Nat} {fq tp : Nat → Prop} {W W2 W3 W4 : World} {j : JobD} {so : Option Addr} {sc : Nat} {g : Option Nat} {met : List W8}
    (hJ : RdJ s bx rb mb tb j so sc g met fq W) (hre : RR = (zeroJ, n, e)) (hfl : ∀ k, fq k → k < W.heap.size) (hB : Below W.heap.size W W2) (ho : Only (fun k => k = rb ∨ k = mb ∨ g = some k) W2 W3)
    (h4 : W4.heap[s]? = some (.cells zeroCs 30 (0, 0))) (o4 : Only (fun k => k = s) W3 W4) {vn : Value} (hvn : vn = .int .i64 (n : Nat)) :
    ∃ fp', FwdT fq tp fp' W ((W4.setCell ⟨s + 1, 0, none⟩ vn).setCell ⟨s + 1 + 1, 0, none⟩ (.int .i64 (e : Nat))) ∧ rdX RR s .ret fp' ((W4.setCell ⟨s + 1, 0, none⟩ vn).setCell ⟨s + 1 + 1, 0, none⟩ (.int .i64 (e : Nat))) := by
  subst hvn
  have hz := hB.size
  have hJ2 := hJ.ext hB
  have hord := hJ.ord
  have h1 := blk_lt hJ2.k1
  have h2 := blk_lt hJ2.k2
  have hz3 := ho.size
  have keep : ∀ k, k < rb → k < mb → k < W2.heap.size → k < bx → k ≠ s → W4.heap[k]? = W2.heap[k]? := fun k hk hk2 hl hb hn => (o4.same k (by omega) hn).trans (ho.same k hl (fun e => by
    rcases e with e | e | e
    · omega
    · omega
    · have := hJ.gf k e; omega))
  have k1 := (keep (s + 1) (by omega) (by omega) h1 (by omega) (by omega)).trans hJ2.k1
  have k2 := (keep (s + 1 + 1) (by omega) (by omega) h2 (by omega) (by omega)).trans hJ2.k2
  refine ⟨fq, FwdT.const (((((Only.of_below hB).trans ho (fun k _ h => hJ.f k (by rcases h with h | h | h <;> simp [RdF, h]))).trans o4 (fun k _ h => hJ.f k (by simp [RdF, h]))).setCell (fun _ => hJ.f _ (by simp [RdF])) _).setCell (fun _ => hJ.f _ (by simp [RdF])) _) hfl, rfl, n, e, hre, ⟨?_, ?_, ?_⟩, hJ.f _ (by simp [RdF]), hJ.f _ (by simp [RdF]), hJ.f _ (by simp [RdF])⟩
  · rw [row_other _ (by omega), row_other _ (by omega)]; exact h4
  · rw [row_other _ (by omega)]; exact row_set19 k1 0 _
  · exact row_set19 ((row_other _ (by omega)).trans k2) 0 _
theorem results_cell3 {fn : Func} {p u v : Tmp} {ty t1 t2 : TypeId} (h : fn.results = #[.cell p ty, .cell u t1, .cell v t2]) (tmps : Array Value) (P : Program) (w : World) :
    (results fn tmps).run P w = ((asAddr (tmps.getD p undef)).run P w).andThen fun a w₁ => ((loadVar ty a).run P w₁).andThen fun x w₂ => ((asAddr (tmps.getD u undef)).run P w₂).andThen fun a' w₃ => ((loadVar t1 a').run P w₃).andThen fun x' w₄ => ((asAddr (tmps.getD v undef)).run P w₄).andThen fun a'' w₅ => ((loadVar t2 a'').run P w₅).andThen fun x'' w₆ => .ok (.tuple #[x, x', x'']) w₆ := by
  simp only [results, h]
  simp [Sem.run_bind, Result.andThen]
theorem read_results {tmps : Array Value} {W : World} {s : Nat} {cs : Array Value} {a b : Int} (h2 : tmps.getD 2 undef = .pointer (some ⟨s, 0, none⟩)) (h3 : tmps.getD 3 undef = .pointer (some ⟨s + 1, 0, none⟩)) (h4 : tmps.getD 4 undef = .pointer (some ⟨s + 1 + 1, 0, none⟩))
    (hz : W.heap[s]? = some (.cells cs 30 (0, 0))) (hi : (Try.prog.info? 30).map (·.size) = some cs.size) (k1 : W.cell? ⟨s + 1, 0, none⟩ = some (.int .i64 a)) (k2 : W.cell? ⟨s + 1 + 1, 0, none⟩ = some (.int .i64 b)) :
    (results Try.f9 tmps).run Try.prog W = .ok (.tuple #[.agg cs, .int .i64 a, .int .i64 b]) W := by
  have hl := run_loadVar_row (P := Try.prog) W s 30 30 cs (0, 0) _ hz Try.underlying30 rfl hi
  have l1 : (loadVar 3 ⟨s + 1, 0, none⟩).run Try.prog W = .ok (.int .i64 a) W := by simp [go_sem, k1]
  have l2 : (loadVar 31 ⟨s + 1 + 1, 0, none⟩).run Try.prog W = .ok (.int .i64 b) W := by simp [go_sem, k2]
  rw [results_cell3 Try.results9, h2]
  simp only [asAddr, Sem.run_pure, Result.andThen_ok, hl, h3, l1, h4, l2]
set_option maxRecDepth 100000 in
set_option maxHeartbeats 6400000 in
theorem jread_any (l : List UInt8) (hl : l.length ≤ 1000000) (ao : Option Addr) (cap : Nat) (w : World) (hrd : Rd w ao l.length (byteVals l)) (hcap : l.length ≤ cap) (hcm : cap ≤ maxLen) :
    Calls Try.prog 9 #[.slice ao l.length cap] w (ReadRet (readJ l) w) := by
  have hmix : Try.prog.follows .mixedOrders = true := by kernel_rfl
  have hd : decide ((1048576 : Int) < l.length) = false := decide_eq_false (by omega)
  have hit := fun b => (lines_iter b l ao cap (by omega) hcap hcm).toT
  have hlm := lines_mem19 l
  have hll := lines_len l
  have HBg := Lib.hid (fun W => jbegins_any W)
  obtain ⟨RR, hRR⟩ : ∃ RR, readJ l = RR := ⟨_, rfl⟩
  rw [hRR]
  have HRR := Lib.hid (show readJGo beginJ [] 0 (lines l) = RR from hRR)
  clear hRR
  generalize lines l = ls at hit hlm hll HRR
  have Hlm := Lib.hid hlm
  clear hlm
  obtain ⟨W0, hW0⟩ : ∃ W0, (((w.alloc (.cells zeroCs 30)).alloc (.cells #[.int .i64 0] 3)).alloc (.cells #[.int .i64 0] 31)) = W0 := ⟨_, rfl⟩
  have HW0 := Lib.hid hW0
  unfold zeroCs at HW0
  clear hW0
  refine (callsIn_wide (n := 0)).1 (callsIn_of_wp_marks Try.func9 rfl trivial ?_)
  simp only [Try.ntmps9, List.size_toArray, List.length_cons, List.length_nil, Nat.reduceAdd, Nat.reduceSub, Array.replicate_succ, Array.replicate_zero, List.push_toArray, List.append_toArray, List.nil_append, List.cons_append]
  gi_wp2_with fail
  rw [HW0.out]
  refine wpIn_wide.2 (wp_scope_straight ((wpIn_wide (n := 0)).1 ?_))
  gi_wp2_with (gi_at_call 19; refine (callsIn_wide.2 (HBg.out _)).mono ?_; rintro e w1 ⟨rb, mb, tb, rfl, h1, h2, h3, h4, h5⟩; have HR1 := Lib.hid h1; have B1 := Lib.hid h2; have HG := Lib.hid (And.intro h3 (And.intro h4 h5)); clear h1 h2 h3 h4 h5)
  refine wpIn_label ?_
  gi_wp2_with (gi_at_call 20; refine (callsIn_wide.2 (lines_any _ _ _ _)).mono ?_; rintro e w2 ⟨rfl, rfl⟩)
  obtain ⟨bx, hbx⟩ : ∃ bx, bx = w1.heap.size := ⟨_, rfl⟩
  obtain ⟨s, hs⟩ : ∃ s, s = w.heap.size := ⟨_, rfl⟩
  have hs0 : W0.heap.size = s + 3 := by rw [← HW0.out, hs]; simp
  have hB0 : Below s w W0 := by rw [← HW0.out, hs]; exact ((ext_alloc w _).alloc (by simp) _).alloc (by simp; omega) _
  have z0 : W0.heap[s]? = some (.cells zeroCs 30 (0, 0)) := by
    rw [← HW0.out, hs]
    exact (Below.heap_alloc _ _ _ (by simp; omega)).trans ((Below.heap_alloc _ _ _ (by simp)).trans (heap_alloc_new w _))
  have z1 : W0.heap[s + 1]? = some (.cells #[.int .i64 0] 3 (0, 0)) := by
    rw [← HW0.out, hs]
    exact (Below.heap_alloc _ _ _ (by simp)).trans (heap_alloc2_new _ _ _)
  have z2 : W0.heap[s + 1 + 1]? = some (.cells #[.int .i64 0] 31 (0, 0)) := by
    have h := heap_alloc_new ((w.alloc (.cells zeroCs 30)).alloc (.cells #[.int .i64 0] 3)) (.cells #[.int .i64 0] 31)
    simp only [World.size_alloc] at h
    rw [← HW0.out, hs]
    exact h
  obtain ⟨w5, hw5⟩ : ∃ w5, (w1.alloc (.cells #[.pointer (some ⟨rb, 0, none⟩)] 49)).alloc (.cells #[.slice ao l.length cap] 22) = w5 := ⟨_, rfl⟩
  have hB5 : Below w1.heap.size w1 w5 := by rw [← hw5]; exact (ext_alloc _ _).alloc (by simp) _
  have hs5 : w5.heap.size = bx + 2 := by rw [← hw5, hbx]; simp
  have hkb : w5.heap[bx]? = some (.cells #[.pointer (some ⟨rb, 0, none⟩)] 49 (0, 0)) := by rw [← hw5, hbx]; exact heap_alloc2_old _ _ _
  have hkl : w5.heap[bx + 1]? = some (.cells #[.slice ao l.length cap] 22 (0, 0)) := by rw [← hw5, hbx]; exact heap_alloc2_new _ _ _
  have c5 : w5.cell? ⟨bx + 1, 0, none⟩ = some (.slice ao l.length cap) := (cell_of_row _ _ _ _ _ _ hkl).trans rfl
  have hz1 := B1.out.size
  have hB05 : Below s w w5 := (hB0.trans (B1.out.mono (by omega))).trans (hB5.mono (by omega))
  have hJ0 : RdJ s bx rb mb tb beginJ none 0 none [] (RdF s bx rb mb tb none) w5 := by
    have hg := HG.out
    have e1 := HR1.out.lt
    have e2 := HR1.out.met.lt
    have e3 := HR1.out.tak.lt
    have hb15 : ∀ k, k < W0.heap.size → w5.heap[k]? = W0.heap[k]? := fun k hk => (hB5.block _ (by omega)).trans (B1.out.block _ hk)
    refine ⟨HR1.out.ext hB5, (hb15 _ (by omega)).trans z0, (hb15 _ (by omega)).trans z1, (hb15 _ (by omega)).trans z2, hkb, fun k h => h, fun b h => (by cases h), ?_⟩
    omega
  have hI0 : rdJ RR ls s bx rb mb tb [] (RdF s bx rb mb tb none) w5 := ⟨beginJ, none, 0, none, [], hJ0, HRR.out, inJ_begin⟩
  have hao : ∀ k off, 0 < l.length → ao = some ⟨k, off, none⟩ → k < s := fun k off h0 e => by
    obtain ⟨b, o, h1, h2, _⟩ := hrd.pos h0
    rw [h1] at e
    cases e
    omega
  have hrd5 := hrd.ext (hs ▸ hB05)
  have hord := hJ0.ord
  rw [hw5]
  rw [← hbx, ← hs]
  have Hbx := Lib.hid hbx
  have Hs := Lib.hid hs
  have Hsz := Lib.hid (And.intro hs0 (And.intro hs5 hz1))
  have HI0 := Lib.hid hI0
  have HB5 := Lib.hid hB05
  have Hrd5 := Lib.hid hrd5
  have hs5' : bx + 2 ≤ w5.heap.size := by omega
  clear hw5 hI0 hB05 hB5 hrd5 hJ0 hkb hkl z0 z1 z2 hB0 hs5 hs0 hz1 hbx hs
  refine wpIn_rangeTS (gf := 45) (lb := #[.pointer (some ⟨bx + 1, 0, none⟩)]) rfl (enters_of Try.func45 (by kernel_rfl) rfl) (hit _) (fun _ => rfl)
    (RdF s bx rb mb tb none) (fun k hk => ⟨?g1, ?g2⟩)
    (fun k h => h.elim (fun h => by omega) (fun ⟨h0, off, e⟩ => by have := hao _ _ h0 e; omega)) (fun k h => h.elim)
    (fun pre fq W => rdJ RR ls s bx rb mb tb pre fq W) (fun c pre fq W => rdX RR s c fq W) (fun pre fq A B h hs => ?st1) (fun c pre fq A B h hs => h.stays hs) (fun _ _ _ _ => trivial) ?hPre HI0.out
    [(17, fun x => .int .i64 x.1), (18, fun x => .string (bs x.2)), (6, fun x => .int .i64 x.1), (7, fun x => .string (bs x.2))] ?assign ?body ?done ?stop
  case g1 => rcases hk with h | h | h | h | h | h | h | h <;> first | omega | cases h
  case g2 => exact fun h => h.elim (fun h => by rcases hk with h | h | h | h | h | h | h | h <;> first | omega | cases h) (fun ⟨h0, off, e⟩ => by have := hao _ _ h0 e; rcases hk with h | h | h | h | h | h | h | h <;> first | omega | cases h)
  case st1 =>
    obtain ⟨j, so, sc, g, met, h1, h2, h3⟩ := h
    exact ⟨j, so, sc, g, met, h1.stays hs, h2, h3⟩
  case hPre => exact fun W hb => ⟨((bcell hb).1 _ 0 (by omega)).trans c5, Hrd5.out.ext hb⟩
  case assign =>
    intro l x W K hK
    rw [show lineEnc x = #[.int .i64 x.1, .string (bs x.2)] from rfl]
    gi_wp2
    exact hK
  case body =>
    rintro l0 pre fq tp x W WW hl0 hr0 honly hok _ ho0 hnl hflt htp ⟨j, so, sc, g, met, hJ, hgo, hin⟩ hsz
    simp only [List.foldl_cons, List.foldl_nil, List.setIfInBounds_toArray, List.set_cons_zero, List.set_cons_succ]
    obtain ⟨y, rfl, hy, hlt⟩ := pre_next hok
    obtain ⟨hyi, hye⟩ := List.getElem?_eq_some_iff.1 hy
    have hyl : y.length ≤ 1000000 := by have := Hlm.out y (hye ▸ List.getElem_mem hyi); omega
    rw [List.drop_eq_getElem_cons hlt, hye] at hgo
    have HWd := Lib.hid (fun W => words_any y (by omega) W)
    have Hwm := Lib.hid (show (∀ x ∈ words y, x.length ≤ 1000000) ∧ (words y).length ≤ 1000000 from ⟨fun x hx => Nat.le_trans (words_mem19 y x hx) hyl, Nat.le_trans (words_len y) hyl⟩)
    have HgoX := hgo
    unfold readJGo at HgoX
    have HGo := Lib.hid HgoX
    have HJ := Lib.hid hJ
    have HIn := Lib.hid hin
    have Hfl := Lib.hid hflt
    have Hplen := Lib.hid (show pre.length < 1000000 by have := Hlm.out; omega)
    clear hgo HgoX hJ hin hflt htp hnl ho0 honly hok hr0 hl0 hy hyi hye
    dsimp only
    generalize words y = V at *
    rcases V with _ | ⟨k, ws⟩
    · have e0 : (([] : List W8).length : Int) = 0 := rfl
      gi_wp2_with (gi_at_call 21; refine (CallsIn.inRound l0 (callsIn_wide.2 (HWd.out _))).mono ?_; rintro e w2 ⟨wa, wc, wg, rfl, hx, hy, hz⟩; have HB2 := Lib.hid hz; clear hx hy hz)
      exact rd_skip HJ.out HGo.out HIn.out Hfl.out HB2.out
    · obtain ⟨n, hn⟩ : ∃ n, n = ws.length + 1 := ⟨_, rfl⟩
      have h0 : ((n : Int) == 0) = false := beq_eq_false_iff_ne.2 (by omega)
      have h0' : (n == 0) = false := beq_eq_false_iff_ne.2 (by omega)
      have h1 : (0 : Int) < n := by omega
      have h1' : 0 < n := by omega
      have HWn := Lib.hid (fun W => (show Calls Try.prog 21 #[.string (bs y)] W (RetOwn 9 1 n (strCells (k :: ws)) W) by rw [hn]; exact HWd.out W))
      obtain ⟨r1, hr1⟩ : ∃ r1, lineJ j met k ws = r1 := ⟨_, rfl⟩
      have HLn := Lib.hid (show ∀ W2 wb wc, Rdr rb mb tb j so sc g met W2 → Rd W2 (some ⟨wb, 0, none⟩) n (strCells (k :: ws)) → n ≤ wc → wc ≤ maxLen → g ≠ some wb → Calls Try.prog 23 #[.pointer (some ⟨rb, 0, none⟩), .slice (some ⟨wb, 0, none⟩) n wc] W2 (LineMet rb mb tb (met ++ [k]) r1 g W2) from
        fun W2 wb wc hr hl hc hm hg => by
          subst hn
          rw [← hr1]
          exact jline_any rb mb tb j HIn.out.few so sc g met W2 hr k ws (fun x hx => Nat.le_trans (Hwm.out.1 x (by simp [hx])) (by omega)) (by have := Hwm.out.2; simp at this; omega) _ wc hc hm hl (fun q o e => by cases e; exact hg))
      have HGo2 := Lib.hid (show (if k.head? = some 35 then readJGo j met (pre.length + 1) (ls.drop (pre.length + 1)) else if r1.2 ≠ 0 then (zeroJ, pre.length + 1, r1.2) else readJGo r1.1 (met ++ [k]) (pre.length + 1) (ls.drop (pre.length + 1))) = RR by rw [← hr1]; exact HGo.out)
      have HIl := Lib.hid (fun h => lineJ_in HIn.out (met := met) (k := k) (ws := ws) h)
      rw [hr1] at HIl
      clear HWd HGo hr1 hn
      by_cases hp : k.head? = some 35
      · have hpb : (k.head? == some 35) = true := by rw [hp]; rfl
        have HG3 := Lib.hid (show readJGo j met (pre.length + 1) (ls.drop (pre.length + 1)) = RR by have := HGo2.out; rwa [if_pos hp] at this)
        clear hp HGo2
        gi_wp2_with (first
          | (gi_at_call 21; refine (CallsIn.inRound l0 (callsIn_wide.2 (HWn.out _))).mono ?_; rintro e w2 ⟨wa, wc, wg, rfl, hx, hy, hz⟩; obtain ⟨wb, hgb, rfl, hwb⟩ := hx.pos (by omega); have c2 : w2.cell? ⟨wb, 0, none⟩ = some (.string (bs k)) := (by have := hx.cell 0 (by omega); simpa [strCells] using this); have HJ2 := Lib.hid (HJ.out.ext hz); have cb : w2.cell? ⟨bx, 0, none⟩ = some (.pointer (some ⟨rb, 0, none⟩)) := (cell_of_row _ _ _ _ _ _ HJ2.out.kb).trans rfl; have HW2 := Lib.hid (And.intro hx (hy wb hgb)); have HB2 := Lib.hid hz; clear hx hy hz hgb hwb)
          | (gi_at_call 22; refine (CallsIn.inRound l0 (callsIn_wide.2 (prefix19_any _ _))).mono ?_; rintro e w3 ⟨rfl, rfl⟩))
        exact rd_skip HJ.out HG3.out HIn.out Hfl.out HB2.out
      · have hpb : (k.head? == some 35) = false := beq_eq_false_iff_ne.2 hp
        have HG3 := Lib.hid (show (if r1.2 ≠ 0 then (zeroJ, pre.length + 1, r1.2) else readJGo r1.1 (met ++ [k]) (pre.length + 1) (ls.drop (pre.length + 1))) = RR by have := HGo2.out; rwa [if_neg hp] at this)
        clear hp HGo2
        obtain ⟨j1, e1⟩ := r1
        by_cases he : e1 = 0
        · subst he
          have HG4 := Lib.hid (show readJGo j1 (met ++ [k]) (pre.length + 1) (ls.drop (pre.length + 1)) = RR by rw [← HG3.out]; exact (if_neg (by simp)).symm)
          have HI4 := Lib.hid (HIl.out rfl)
          clear HG3 HIl
          gi_wp2_with (first
            | (gi_at_call 21; refine (CallsIn.inRound l0 (callsIn_wide.2 (HWn.out _))).mono ?_; rintro e w2 ⟨wa, wc, wg, rfl, hx, hy, hz⟩; obtain ⟨wb, hgb, rfl, hwb⟩ := hx.pos (by omega); have c2 : w2.cell? ⟨wb, 0, none⟩ = some (.string (bs k)) := (by have := hx.cell 0 (by omega); simpa [strCells] using this); have HJ2 := Lib.hid (HJ.out.ext hz); have cb : w2.cell? ⟨bx, 0, none⟩ = some (.pointer (some ⟨rb, 0, none⟩)) := (cell_of_row _ _ _ _ _ _ HJ2.out.kb).trans rfl; have HW2 := Lib.hid (And.intro hx (hy wb hgb)); have HB2 := Lib.hid hz; clear hx hy hz hgb hwb)
            | (gi_at_call 22; refine (CallsIn.inRound l0 (callsIn_wide.2 (prefix19_any _ _))).mono ?_; rintro e w3 ⟨rfl, rfl⟩)
            | (gi_at_call 23; refine (CallsIn.inRound l0 (callsIn_wide.2 (HLn.out _ _ _ HJ2.out.rdr HW2.out.1.rd HW2.out.1.capLe.1 HW2.out.1.capLe.2 (fun e => by have := HJ.out.rdr.src.lt _ e; have := HW2.out.2; omega)))).mono ?_; rintro e w3 ⟨rfl, hx, hy⟩; have HX := Lib.hid hx; have HY := Lib.hid hy; have HR3 := Lib.hid (rd_keep HJ2.out hy); have cz3 := HR3.out.1; clear hx hy))
          obtain ⟨so', sc', g', hR, hg⟩ := HX.out (by first | rfl | trivial)
          exact rd_more HJ.out HG4.out HI4.out Hfl.out HB2.out hR hg HY.out
        · have d1 : ((e1 : Int) != 0) = true := by simp; omega
          have d1' : (e1 != 0) = true := by simp; omega
          have HG4 := Lib.hid (show RR = (zeroJ, pre.length + 1, e1) by rw [← HG3.out]; exact if_pos he)
          clear HG3 HIl he
          gi_wp2_with (first
            | (gi_at_call 21; refine (CallsIn.inRound l0 (callsIn_wide.2 (HWn.out _))).mono ?_; rintro e w2 ⟨wa, wc, wg, rfl, hx, hy, hz⟩; obtain ⟨wb, hgb, rfl, hwb⟩ := hx.pos (by omega); have c2 : w2.cell? ⟨wb, 0, none⟩ = some (.string (bs k)) := (by have := hx.cell 0 (by omega); simpa [strCells] using this); have HJ2 := Lib.hid (HJ.out.ext hz); have cb : w2.cell? ⟨bx, 0, none⟩ = some (.pointer (some ⟨rb, 0, none⟩)) := (cell_of_row _ _ _ _ _ _ HJ2.out.kb).trans rfl; have HW2 := Lib.hid (And.intro hx (hy wb hgb)); have HB2 := Lib.hid hz; clear hx hy hz hgb hwb)
            | (gi_at_call 22; refine (CallsIn.inRound l0 (callsIn_wide.2 (prefix19_any _ _))).mono ?_; rintro e w3 ⟨rfl, rfl⟩)
            | (gi_at_call 23; refine (CallsIn.inRound l0 (callsIn_wide.2 (HLn.out _ _ _ HJ2.out.rdr HW2.out.1.rd HW2.out.1.capLe.1 HW2.out.1.capLe.2 (fun e => by have := HJ.out.rdr.src.lt _ e; have := HW2.out.2; omega)))).mono ?_; rintro e w3 ⟨rfl, hx, hy⟩; have HX := Lib.hid hx; have HY := Lib.hid hy; have HR3 := Lib.hid (rd_keep HJ2.out hy); have cz3 := HR3.out.1; clear hx hy)
            | (refine wpListIn_store_row19 rfl _ _ _ rfl rfl rfl cz3 rfl (jb_info19 zeroJ none 0) (jb_one19 zeroJ none 0) ?_; intro w4 h4 o4; have q1 := (o4.same (s + 1) (blk_lt HR3.out.2.1) (by omega)).trans HR3.out.2.1; have q2 := (o4.same (s + 1 + 1) (blk_lt HR3.out.2.2) (by omega)).trans HR3.out.2.2; have k1 := (cell_of_row _ _ 0 _ _ _ q1).trans (show (#[.int .i64 0] : Array Value)[0]? = some (.int .i64 0) from rfl); have k2 := (cell_of_row _ _ 0 _ _ _ q2).trans (show (#[.int .i64 0] : Array Value)[0]? = some (.int .i64 0) from rfl); have f1 := frozen_of_row w4 (s + 1) 0 _ _ q1; have f2 := frozen_of_row w4 (s + 1 + 1) 0 _ _ q2; have H4 := Lib.hid h4; have O4 := Lib.hid o4; clear h4 o4 q1 q2))
          exact rd_break HJ.out HG4.out Hfl.out HB2.out HY.out H4.out O4.out rfl
  case done =>
    rintro D xs fq W hD rfl ⟨j, so, sc, g, met, hJ, hgo, hin⟩ honly hfo hlt hnD hk
    rw [numFrom_length, List.drop_length] at hgo
    have hE : (if j.src = [] then (zeroJ, 0, 1) else (j, 0, 0)) = RR := hgo
    have hbW : Below s w W := HB5.out.trans (honly.below (by omega) (by
      rintro k hk (h | h)
      · rcases h with h | h | h | h | h | h | h | h <;> first | omega | cases h
      · exact h))
    have HbW := Lib.hid hbW
    have HJ := Lib.hid hJ
    have Hnd := Lib.hid hnD
    have Hk := Lib.hid hk
    have HDlt := Lib.hid (blk_lt hk)
    have Hfl := Lib.hid hlt
    have cb : W.cell? ⟨bx, 0, none⟩ = some (.pointer (some ⟨rb, 0, none⟩)) := (cell_of_row _ _ _ _ _ _ hJ.kb).trans rfl
    have c4 := hJ.rdr.at 4 (v := .slice so j.src.length sc) rfl
    have k1 : W.cell? ⟨s + 1, 0, none⟩ = some (.int .i64 0) := (cell_of_row _ _ _ _ _ _ hJ.k1).trans rfl
    have k2 : W.cell? ⟨s + 1 + 1, 0, none⟩ = some (.int .i64 0) := (cell_of_row _ _ _ _ _ _ hJ.k2).trans rfl
    have f1 := frozen_of_row W (s + 1) 0 _ _ hJ.k1
    have f2 := frozen_of_row W (s + 1 + 1) 0 _ _ hJ.k2
    have HD := Lib.hid (show s + 1 + 1 < D ∧ s ≤ D by omega)
    clear hgo hbW hJ hin hnD hk honly hfo hlt hit
    dsimp only
    by_cases h0 : j.src = []
    · have HR := Lib.hid (show RR = (zeroJ, 0, 1) by rw [← hE, if_pos h0])
      have n0 : ((j.src.length : Int) == 0) = true := by rw [h0]; rfl
      generalize j.src.length = n at c4 n0
      clear hE h0 k1 k2 f1 f2
      gi_wp2_with (refine wpListIn_store_row19 rfl _ _ _ rfl rfl rfl HJ.out.z rfl (jb_info19 zeroJ none 0) (jb_one19 zeroJ none 0) ?_; intro w4 h4 o4; have q1 := (o4.same (s + 1) (blk_lt HJ.out.k1) (by omega)).trans HJ.out.k1; have q2 := (o4.same (s + 1 + 1) (blk_lt HJ.out.k2) (by omega)).trans HJ.out.k2; have k1 := (cell_of_row _ _ 0 _ _ _ q1).trans (show (#[.int .i64 0] : Array Value)[0]? = some (.int .i64 0) from rfl); have k2 := (cell_of_row _ _ 0 _ _ _ q2).trans (show (#[.int .i64 0] : Array Value)[0]? = some (.int .i64 0) from rfl); have f1 := frozen_of_row w4 (s + 1) 0 _ _ q1; have f2 := frozen_of_row w4 (s + 1 + 1) 0 _ _ q2; have H4 := Lib.hid h4; have O4 := Lib.hid o4; have Q12 := Lib.hid (And.intro q1 q2); clear h4 o4 q1 q2)
      change bodyPostM Fence.wide 0 Try.prog Try.f9 _ Exit.ret _ _
      have hd1 := HD.out
      have hdl := HDlt.out
      have hs4 := O4.out.size
      refine leaveM1 (v := .tuple #[.agg zeroCs, .int .i64 0, .int .i64 1]) ?_ ?_ ?_
      · rw [row_other _ (by omega), row_other _ (by omega), O4.out.same D hdl (by omega)]; exact Hk.out
      · refine read_results rfl rfl rfl ?_ (jb_info19 zeroJ none 0) ?_ ?_
        · rw [World.putObj_heap_other (by omega), row_other _ (by omega), row_other _ (by omega)]; exact H4.out
        · rw [cell_put _ _ _ _ _ (by omega)]; simp [cell_set_ite, k1, show ¬ s + 1 = s + 1 + 1 by omega]
        · rw [cell_put _ _ _ _ _ (by omega)]; simp [cell_set_ite, k2, show ¬ s + 1 = s + 1 + 1 by omega]
      · rw [HR.out]
        have hB4 := HbW.out.trans (O4.out.below (Nat.le_trans (Nat.le_of_eq Hs.out) HbW.out.size) (fun k hk e => by omega))
        have hB6 := (hB4.setCell (p := ⟨s + 1, 0, none⟩) (by show s ≤ s + 1; omega) (.int .i64 0)).setCell (p := ⟨s + 1 + 1, 0, none⟩) (by show s ≤ s + 1 + 1; omega) (.int .i64 1)
        exact ⟨none, 0, rfl, ⟨rfl, .inl rfl⟩, ext_put (hB6.mono (by have := Hs.out; omega)) (by have := Hs.out; omega)⟩
    · have HR := Lib.hid (show RR = (j, 0, 0) by rw [← hE, if_neg h0])
      have n0 : ((j.src.length : Int) == 0) = false := beq_eq_false_iff_ne.2 fun h => h0 (List.eq_nil_of_length_eq_zero (by omega))
      have n0' : (j.src.length == 0) = false := beq_eq_false_iff_ne.2 fun h => h0 (List.eq_nil_of_length_eq_zero h)
      have HG := Lib.hid (show W.rangeAt rb 0 (jobCs j so sc).toList from fun q v hv => by
        rw [Nat.zero_add, cell_of_row _ _ _ _ _ _ HJ.out.rdr.row]
        unfold rdrCs
        have hq := (List.getElem?_eq_some_iff.1 hv).1
        rw [Array.getElem?_append_left (by simpa using hq)]
        simpa using hv)
      generalize j.src.length = n at c4 n0 n0'
      clear hE h0 k1 k2 f1 f2
      gi_wp2_with (first
        | (refine wpListIn_load_mid19 rfl _ _ rfl rb 0 rfl (jobCs j so sc).toList _ HG.out Try.underlying30 rfl (by kernel_rfl) ?_)
        | (refine wpListIn_store_row19 rfl _ _ _ rfl rfl rfl HJ.out.z rfl (jb_info19 j so sc) (jb_one19 j so sc) ?_; intro w4 h4 o4; have q1 := (o4.same (s + 1) (blk_lt HJ.out.k1) (by omega)).trans HJ.out.k1; have q2 := (o4.same (s + 1 + 1) (blk_lt HJ.out.k2) (by omega)).trans HJ.out.k2; have k1 := (cell_of_row _ _ 0 _ _ _ q1).trans (show (#[.int .i64 0] : Array Value)[0]? = some (.int .i64 0) from rfl); have k2 := (cell_of_row _ _ 0 _ _ _ q2).trans (show (#[.int .i64 0] : Array Value)[0]? = some (.int .i64 0) from rfl); have f1 := frozen_of_row w4 (s + 1) 0 _ _ q1; have f2 := frozen_of_row w4 (s + 1 + 1) 0 _ _ q2; have H4 := Lib.hid h4; have O4 := Lib.hid o4; have Q12 := Lib.hid (And.intro q1 q2); clear h4 o4 q1 q2))
      change bodyPostM Fence.wide 0 Try.prog Try.f9 _ Exit.ret _ _
      have hd1 := HD.out
      have hdl := HDlt.out
      have hs4 := O4.out.size
      refine leaveM1 (v := .tuple #[.agg (jobCs j so sc), .int .i64 0, .int .i64 0]) ?_ ?_ ?_
      · rw [row_other _ (by omega), row_other _ (by omega), O4.out.same D hdl (by omega)]; exact Hk.out
      · refine read_results rfl rfl rfl ?_ (jb_info19 j so sc) ?_ ?_
        · rw [World.putObj_heap_other (by omega), row_other _ (by omega), row_other _ (by omega)]; exact H4.out
        · rw [cell_put _ _ _ _ _ (by omega)]; simp [cell_set_ite, k1, show ¬ s + 1 = s + 1 + 1 by omega]
        · rw [cell_put _ _ _ _ _ (by omega)]; simp [cell_set_ite, k2, show ¬ s + 1 = s + 1 + 1 by omega]
      · rw [HR.out]
        have hB4 := HbW.out.trans (O4.out.below (Nat.le_trans (Nat.le_of_eq Hs.out) HbW.out.size) (fun k hk e => by omega))
        have hB6 := (hB4.setCell (p := ⟨s + 1, 0, none⟩) (by show s ≤ s + 1; omega) (.int .i64 0)).setCell (p := ⟨s + 1 + 1, 0, none⟩) (by show s ≤ s + 1 + 1; omega) (.int .i64 0)
        refine ⟨so, sc, rfl, ?_, ext_put (hB6.mono (by have := Hs.out; omega)) (by have := Hs.out; omega)⟩
        refine (HJ.out.rdr.src.keep (fun b hb => ?_)).rd
        have hgb := HJ.out.gf b hb
        have hbl := HJ.out.rdr.src.lt b hb
        have hbD : b ≠ D := fun e => Hnd.out (e ▸ HJ.out.f b (by simp [RdF, hb]))
        rw [World.putObj_heap_other hbD, row_other _ (by omega), row_other _ (by omega), O4.out.same b hbl (by omega)]
  case stop =>
    rintro D c xs fq W hD hok ⟨rfl, n, e, hre, ⟨k0, k1, k2⟩, q0, q1, q2⟩ honly hfo hlt hnD hk
    have hbW : Below s w W := HB5.out.trans (honly.below (by omega) (by
      rintro k hk (h | h)
      · rcases h with h | h | h | h | h | h | h | h <;> first | omega | cases h
      · exact h))
    rw [Hs.out] at hbW
    gi_wp2
    change bodyPostM Fence.wide 0 Try.prog Try.f9 _ Exit.ret _ _
    refine leaveM1 (v := .tuple #[.agg zeroCs, .int .i64 (n : Nat), .int .i64 (e : Nat)]) hk ?_ (by rw [hre]; exact ⟨none, 0, rfl, ⟨rfl, .inl rfl⟩, ext_put hbW (by have := Hs.out; omega)⟩)
    refine read_results rfl rfl rfl ?_ (jb_info19 zeroJ none 0) ?_ ?_
    · rw [World.putObj_heap_other (by omega)]; exact k0
    · rw [cell_put _ _ _ _ _ (by omega)]; exact (cell_of_row _ _ _ _ _ _ k1).trans rfl
    · rw [cell_put _ _ _ _ _ (by omega)]; exact (cell_of_row _ _ _ _ _ _ k2).trans rfl
end Go.Proofs.Ytmflopeedofkhaa
