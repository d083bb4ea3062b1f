/- Texts merged into one: StoreRow, OwnSet, RestsW, BeginW, AliasT4. -/
import Derived.Test.YtcklfffeimnfeaaGreatBx06
import Derived.Deep.RegionHeld
import Derived.Test.YtcklfffeimnfeaaGreatBx00
import Derived.Test.YtcklfffeimnfeaaGreatBx15
import Derived.Test.YtcklfffeimnfeaaGreatBx10
import Derived.Test.YtcklfffeimnfeaaGreatBx08
set_option maxRecDepth 100000
set_option maxHeartbeats 12800000
set_option linter.unusedSimpArgs false
set_option linter.unusedVariables false
namespace Go.Proofs.YtcklfffeimnfeaaGreat
open Go.RowKit

theorem wpOp_runG {P : Program} {ops : Array Oper} {Q : Exit → Act → World → Prop} {i : Nat} {o : Oper} {K : Act → World → Prop} {a : Act} {w : World} (ho : ops[i]? = some o) (hw : Region.wanted o (yielded ops a.tmps) = true)
    (h : ∀ K' : Act → World → Prop, (∀ a w, K a w → K' a w) → o.wp P a w K' Q) : wpOp P ops Q i K a w := by
  unfold wpOp
  rw [ho]
  simp only [hw, if_true]
  exact Or.inl (h K fun _ _ h => h)
end Go.Proofs.YtcklfffeimnfeaaGreat

namespace Go.Proofs.YtcklfffeimnfeaaGreat
open Go.RowKit

theorem wp_app {P : Program} {o : Oper} {a : Act} {w : World} {K : Act → World → Prop} {Q : Exit → Act → World → Prop} (s x : Operand) (t tx : TypeId) (hop : o.op = Op.call { callee := Callee.builtin Builtin.append, args := #[s, x], argTypes := #[t, tx] })
    {e : TypeId} {size bytes : Nat} {z : Value} (hE : Elem P t e size bytes z) {ao : Option Addr} {cap : Nat} {g : Option Nat} {n : Nat} {xs : List Value} (ho : Own w ao cap g e size n xs) (hs : a.eval s = .slice ao n cap)
    {xv : Value} {m : Nat} {news : List Value} (hx : a.eval x = xv) (hsrc : Src P size tx xv m news w) (h63 : n + m ≤ maxLen) (hb : (n + m) * bytes ≤ 140737488355328)
    (hK : ∀ ao' cap' g' w', Own w' ao' cap' g' e size (n + m) (xs ++ news) → (g' = g ∨ g' = some w.heap.size) → Only (fun k => g = some k) w w' → K (a.put o.dst (.slice ao' (n + m) cap')) w') : o.wp P a w K Q := by
  obtain ⟨ao', cap', g', w', hrun, r1, r2, r3⟩ := run_app (ty := o.type) hE ho hsrc h63 hb
  unfold Oper.wp
  simp [execOp, hop, resolve, invoke, builtin, hs, hx, hrun, Result.andThen]
  exact hK ao' cap' g' w' r1 r2 r3
section
variable {α : Type} {R : Rep α} {fp : Nat → Prop} {w : World} {cap b : Nat} {e : TypeId} {l : List α}
theorem OwnS.there (h : OwnS R fp w (some ⟨b, 0, none⟩) cap (some b) e l) {k : Nat} (hk : k < l.length) : w.there b (k * R.size) R.size := fun j hj => by
  obtain ⟨css, ho, _⟩ := h
  have hks : (k + 1) * R.size ≤ l.length * R.size := Nat.mul_le_mul_right _ hk
  have hks' : k * R.size + R.size ≤ l.length * R.size := by rwa [Nat.add_mul, Nat.one_mul] at hks
  refine ⟨?_, ho.frozen _⟩
  rw [ho.cell _ (by omega)]
  have := ho.len
  rw [List.getElem?_eq_getElem (by omega)]
  rfl
end
theorem Own.setCellAt {w : World} {b cap n size : Nat} {e : TypeId} {xs : List Value} (h : Own w (some ⟨b, 0, none⟩) cap (some b) e size n xs) (j : Nat) (v : Value) :
    Own (w.setCell ⟨b, j, none⟩ v) (some ⟨b, 0, none⟩) cap (some b) e size n (xs.set j v) := by
  refine ⟨by rw [List.length_set]; exact h.1, ?_⟩
  rcases h.2 with ⟨h1, _⟩ | ⟨b', cur, hg, ha, hh, hn, hc, hs, ht⟩
  · cases h1
  · cases hg
    refine .inr ⟨b, cur.setIfInBounds j v, rfl, rfl, ?_, hn, hc, by simpa using hs, ?_⟩
    · show (w.heap.modify b _)[b]? = _
      rw [Array.getElem?_modify, if_pos rfl, hh]
      rfl
    · rw [Array.toList_setIfInBounds, ← ht, List.take_set]
end Go.Proofs.YtcklfffeimnfeaaGreat

namespace Go.Proofs.YtcklfffeimnfeaaGreat
open Go.RowKit

def restCs (ww : Nat) (la : Option Addr) (n lc : Nat) (pa : Option Addr) (pn pc rich : Nat) : Array Value := #[.int .u64 (ww : Nat), .slice la n lc, .slice pa pn pc, .int .i64 (rich : Nat)]
/-- the rests at the block r: L is left, these lack -/
def RestsAt (w : World) (r ww : Nat) (L poor : List Nat) (rich : Nat) (gl gp : Option Nat) : Prop :=
  ∃ la lc pa pc, w.heap[r]? = some (.cells (restCs ww la L.length lc pa poor.length pc rich) 175 (0, 0)) ∧ Own w la lc gl 23 1 L.length (u64v L) ∧ PoorR w pa pc gp poor ∧ gl ≠ some r ∧ gp ≠ some r ∧ ∀ q, gl = some q → gp ≠ some q
def fpR (r : Nat) (gl gp : Option Nat) (q : Nat) : Prop := q = r ∨ gl = some q ∨ gp = some q
theorem RestsAt.keep {w w' : World} {r ww : Nat} {L poor : List Nat} {rich : Nat} {gl gp : Option Nat} (h : RestsAt w r ww L poor rich gl gp) (hk : ∀ q, fpR r gl gp q → q < w.heap.size → w'.heap[q]? = w.heap[q]?) : RestsAt w' r ww L poor rich gl gp := by
  obtain ⟨la, lc, pa, pc, h1, h2, h3, h4⟩ := h
  exact ⟨la, lc, pa, pc, (hk r (.inl rfl) (Array.getElem?_eq_some_iff.1 h1).1).trans h1, h2.keep (fun b hb => hk b (.inr (.inl hb)) (h2.lt b hb)), h3.keep (fun b hb => hk b (.inr (.inr hb)) (h3.lt b hb)), h4⟩
theorem RestsAt.ext {w w' : World} {r ww : Nat} {L poor : List Nat} {rich : Nat} {gl gp : Option Nat} (h : RestsAt w r ww L poor rich gl gp) (hB : Below w.heap.size w w') : RestsAt w' r ww L poor rich gl gp := h.keep (fun q _ hl => hB.block q hl)
theorem RestsAt.lt {w : World} {r ww : Nat} {L poor : List Nat} {rich : Nat} {gl gp : Option Nat} (h : RestsAt w r ww L poor rich gl gp) : ∀ q, fpR r gl gp q → q < w.heap.size := by
  obtain ⟨la, lc, pa, pc, h1, h2, h3, h4⟩ := h
  rintro q (rfl | hq | hq)
  · exact (Array.getElem?_eq_some_iff.1 h1).1
  · exact h2.lt q hq
  · exact h3.lt q hq
theorem tailI_run (b off len cap : Nat) (hn : 1 ≤ len) (hc : len ≤ cap) (W : World) : (Instr.sliceAt 173 (.slice (some ⟨b, off, none⟩) len cap) (some (.int .i64 1)) none none).run Tryz.prog W = .ok (.slice (some (if cap = 1 then ⟨b, off, none⟩ else ⟨b, off + 1, none⟩)) (len - 1) (cap - 1)) W := by
  have hu : Tryz.prog.underlying 173 = some (.slice (Tryz.prog.elem 173)) := by kernel_rfl
  rw [run_sliceAt_slice W 173 _ _ _ _ hu, run_slice_l W 173 (some ⟨b, off, none⟩) len cap hu .i64 1 (by omega) (by omega)]
  have hs : (sizeOf (Tryz.prog.elem 173)).run Tryz.prog W = .ok 1 W := by kernel_rfl
  rw [hs]
  simp [sliced, Result.andThen, Addr.add_lit]
  split <;> rfl
theorem rest_set {w : World} {r : Nat} {cs : Array Value} {t : TypeId} (h : w.heap[r]? = some (.cells cs t (0, 0))) (i : Nat) (v : Value) : (w.setCell ⟨r, i, none⟩ v).heap[r]? = some (.cells (cs.setIfInBounds i v) t (0, 0)) := by
  show (w.heap.modify r _)[r]? = _
  rw [Array.getElem?_modify, if_pos rfl, h]
  rfl
theorem rnext_any (r ww i : Nat) (L rest : List Nat) (rich : Nat) (gl gp : Option Nat) (w : World) (hR : RestsAt w r ww L (i :: rest) rich gl gp) :
    Calls Tryz.prog 111 #[.pointer (some ⟨r, 0, none⟩)] w fun e w' => e = .returned (.int .i64 (i : Nat)) ∧ RestsAt w' r ww L rest rich gl gp ∧ Only (fun q => q = r) w w' := by
  obtain ⟨la, lc, pa, pc, h1, h2, h3, h4, h5, h6⟩ := hR
  obtain ⟨b, off, rfl, rfl, hb⟩ := h3.pos (by simp)
  have hc2 := cell_of_row w r 2 _ _ (0, 0) h1
  have hf2 := frozen_of_row w r 2 _ _ h1
  have hp0 := h3.cell 0 (by simp)
  have hcap := h3.1
  rw [List.length_cons] at hcap
  have H1 := Lib.hid h1
  have H2 := Lib.hid h2
  have H3 := Lib.hid h3
  have htl := tailI_run b off (i :: rest).length pc (by simp) h3.1
  simp only [List.getElem_cons_zero, Nat.add_zero] at hp0
  simp only [restCs, List.length_cons] at hc2 htl
  obtain ⟨n, hn⟩ : ∃ n, rest.length = n := ⟨_, rfl⟩
  have Hn := Lib.hid hn
  rw [hn] at hc2 htl hcap
  have hn1 : (0 : Int) < ((n + 1 : Nat) : Int) := by omega
  have hn2 : 0 < n + 1 := by omega
  rw [show n + 1 - 1 = n by omega] at htl
  generalize hat : (if pc = 1 then (⟨b, off, none⟩ : Addr) else ⟨b, off + 1, none⟩) = at1 at htl
  have Hat := Lib.hid hat
  obtain ⟨N, hN⟩ : ∃ N, n + 1 = N := ⟨_, rfl⟩
  rw [hN] at hc2 htl hn1 hn2
  clear h1 h2 h3 hn hat hN hcap
  go_enter Tryz.func111, Tryz.ntmps111
  go_wp2_with fail
  go_ret
  have hh := rest_set H1.out 2 (.slice (some at1) n (pc - 1))
  have ho : Only (fun q => q = r) w (w.setCell ⟨r, 2, none⟩ (.slice (some at1) n (pc - 1))) := (Only.refl (fun q => q = r) w).setCell (p := ⟨r, 2, none⟩) (fun _ => rfl) _
  refine ⟨rfl, ⟨la, lc, some at1, pc - 1, ?_, H2.out.keep (fun q hq => ho.same q (H2.out.lt q hq) (fun e => h4 (by rw [hq, e]))), ?_, h4, h5, h6⟩, ho⟩
  · rw [hh, Hn.out]; rfl
  · have := H3.out.tail
    rw [Hat.out] at this
    exact this.keep (fun q hq => ho.same q (H3.out.lt q hq) (fun e => h5 (by rw [hq, e])))
def richN (w : World) (r : Nat) : Nat := match w.cell? ⟨r, 3, none⟩ with
  | some v => (intOf v).toNat
  | none => 0
def giveI (r ww j : Nat) (L poor : List Nat) (gl gp : Option Nat) (w : World) (rich0 : Nat) (wr : World) : Prop :=
  ∃ rich, rich0 ≤ rich ∧ rich ≤ j ∧ RestsAt wr r ww L poor rich gl gp ∧ Only (fun q => q = r) w wr
theorem RestsAt.rich {w : World} {r ww : Nat} {L poor : List Nat} {rich : Nat} {gl gp : Option Nat} (h : RestsAt w r ww L poor rich gl gp) : richN w r = rich := by
  obtain ⟨la, lc, pa, pc, h1, _⟩ := h
  unfold richN
  rw [cell_of_row w r 3 _ _ (0, 0) h1]
  simp [restCs, intOf]
theorem RestsAt.setRich {w : World} {r ww : Nat} {L poor : List Nat} {rich : Nat} {gl gp : Option Nat} (h : RestsAt w r ww L poor rich gl gp) (k : Nat) : RestsAt (w.setCell ⟨r, 3, none⟩ (.int .i64 (k : Nat))) r ww L poor k gl gp := by
  obtain ⟨la, lc, pa, pc, h1, h2, h3, h4, h5, h6⟩ := h
  have ho : Only (fun q => q = r) w (w.setCell ⟨r, 3, none⟩ (.int .i64 (k : Nat))) := (Only.refl (fun q => q = r) w).setCell (p := ⟨r, 3, none⟩) (fun _ => rfl) _
  refine ⟨la, lc, pa, pc, ?_, h2.keep (fun q hq => ho.same q (h2.lt q hq) (fun e => h4 (by rw [hq, e]))), h3.keep (fun q hq => ho.same q (h3.lt q hq) (fun e => h5 (by rw [hq, e]))), h4, h5, h6⟩
  rw [rest_set h1]; rfl
/-- the cells of the rests, and of what is left -/
theorem RestsAt.cells {w : World} {r ww : Nat} {L poor : List Nat} {rich : Nat} {gl gp : Option Nat} (h : RestsAt w r ww L poor rich gl gp) (hl : 0 < L.length) :
    ∃ bl lc pa pc, gl = some bl ∧ bl ≠ r ∧ w.cell? ⟨r, 0, none⟩ = some (.int .u64 (ww : Nat)) ∧ w.cell? ⟨r, 1, none⟩ = some (.slice (some ⟨bl, 0, none⟩) L.length lc) ∧ w.cell? ⟨r, 2, none⟩ = some (.slice pa poor.length pc) ∧ w.cell? ⟨r, 3, none⟩ = some (.int .i64 (rich : Nat)) ∧ (∀ k, w.frozen? ⟨r, k, none⟩ = false) ∧
      Own w (some ⟨bl, 0, none⟩) lc (some bl) 23 1 L.length (u64v L) ∧ PoorR w pa pc gp poor ∧ (∀ k (hk : k < L.length), w.cell? ⟨bl, k, none⟩ = some (.int .u64 (L[k] : Nat)) ∧ w.frozen? ⟨bl, k, none⟩ = false) := by
  obtain ⟨la, lc, pa, pc, h1, h2, h3, h4, h5, h6⟩ := h
  rcases h2.addr with ⟨_, _, h0, _⟩ | ⟨bl, rfl, rfl, _⟩
  · omega
  · refine ⟨bl, lc, pa, pc, rfl, fun e => h4 (by rw [e]), cell_of_row w r 0 _ _ (0, 0) h1, cell_of_row w r 1 _ _ (0, 0) h1, cell_of_row w r 2 _ _ (0, 0) h1, cell_of_row w r 3 _ _ (0, 0) h1, fun k => frozen_of_row w r k _ _ h1, h2, h3, fun k hk => ⟨?_, h2.frozen k⟩⟩
    rw [h2.cell k (by omega)]
    simp [u64v, hk]
theorem RestsAt.setLeft {w : World} {r ww : Nat} {L poor : List Nat} {rich : Nat} {bl : Nat} {gp : Option Nat} (h : RestsAt w r ww L poor rich (some bl) gp) (hl : 0 < L.length) (k v : Nat) : RestsAt (w.setCell ⟨bl, k, none⟩ (.int .u64 (v : Nat))) r ww (L.set k v) poor rich (some bl) gp := by
  obtain ⟨la, lc, pa, pc, h1, h2, h3, h4, h5, h6⟩ := h
  have ho : Only (fun q => q = bl) w (w.setCell ⟨bl, k, none⟩ (.int .u64 (v : Nat))) := (Only.refl (fun q => q = bl) w).setCell (p := ⟨bl, k, none⟩) (fun _ => rfl) _
  rcases h2.addr with ⟨_, _, h0, _⟩ | ⟨b, hb, rfl, _⟩
  · omega
  · cases hb
    refine ⟨some ⟨bl, 0, none⟩, lc, pa, pc, ?_, ?_, h3.keep (fun q hq => ho.same q (h3.lt q hq) (fun e => h6 q (by rw [e]) hq)), h4, h5, h6⟩
    · rw [ho.same r (Array.getElem?_eq_some_iff.1 h1).1 (fun e => h4 (by rw [e])), h1, List.length_set]
    · have := h2.setCellAt k (.int .u64 (v : Nat))
      rw [List.length_set]
      rw [show (u64v L).set k (.int .u64 (v : Nat)) = u64v (L.set k v) by simp [u64v, List.map_set]] at this
      exact this
def GiveRet (r ww i j : Nat) (L rest : List Nat) (gl gp : Option Nat) (w w' : World) : Prop :=
  ∃ gp', RestsAt w' r ww ((L.set j (gN L j - (ww - gN L i))).set i ww) (if gN L j - (ww - gN L i) < ww then insAt j rest else rest) j gl gp' ∧ (gp' = gp ∨ ∃ q, gp' = some q ∧ w.heap.size ≤ q) ∧ Only (fpR r gl gp) w w'
theorem rgive_any (r ww i j : Nat) (L rest : List Nat) (rich : Nat) (gl gp : Option Nat) (w : World) (hl : L.length ≤ 1000) (hww : ww < 18446744073709551616) (h64 : ok64 L) (hrl : rest.length ≤ 1000) (hi : i < L.length) (hj : j < L.length) (hij : i ≠ j) (hlo : gN L i < ww) (hhi : ww < gN L j)
    (hrj : rich ≤ j) (hbt : ∀ k (hk : k < L.length), rich ≤ k → k < j → L[k] ≤ ww) (hrise : rest.Pairwise (· < ·)) (hR : RestsAt w r ww L rest rich gl gp) :
    Calls Tryz.prog 112 #[.pointer (some ⟨r, 0, none⟩), .int .i64 (i : Nat)] w fun e w' => e = .returned (.int .i64 (j : Nat)) ∧ GiveRet r ww i j L rest gl gp w w' := by
  have HR := Lib.hid hR
  have HBt := Lib.hid hbt
  have H64 := Lib.hid h64
  clear hR hbt h64
  go_enter Tryz.func112, Tryz.ntmps112
  go_wp2_with fail
  go_loopw [] (fun wr => giveI r ww j L rest gl gp w rich wr) (fun wr => j - richN wr r)
  case atStart => exact ⟨rich, Nat.le_refl _, hrj, HR.out, Only.refl _ _⟩
  case round =>
    obtain ⟨k, hk0, hkj, hRk, hon⟩ := hrel
    rename World => wo
    have HRk := Lib.hid hRk
    have Hon := Lib.hid hon
    have hrn := hRk.rich
    obtain ⟨bl, lc, pa, pc, hgl, hblr, c0, c1, c2, c3, hf, hOl, hPp, hL⟩ := hRk.cells (by omega)
    have hck := (hL k (by omega)).1
    have hkr : (k : Int) < (L.length : Int) := by omega
    have hkb : k ≤ 1000 := by omega
    have HL := Lib.hid hL
    have f3 := hf 3
    clear hRk hon hOl hPp hL
    by_cases hkj2 : k < j
    · have hle : L[k]'(by omega) ≤ ww := HBt.out k (by omega) hk0 hkj2
      generalize L[k]'(by omega) = x at hck hle
      have d1 : decide ((x : Int) ≤ (ww : Int)) = true := decide_eq_true (by omega)
      have d1' : decide (x ≤ ww) = true := decide_eq_true hle
      clear HL
      go_wp2_with fail
      go_quiet (fail)
      go_wp2_with fail
      go_roundw
      case rel => exact ⟨k + 1, by omega, by omega, (HRk.out.ext (ext_drewN wo _)).setRich (k + 1), (Hon.out.drewN _).setCell (p := ⟨r, 3, none⟩) (fun _ => rfl) _⟩
      case measure =>
        have h1 := ((HRk.out.ext (ext_drewN wo nq)).setRich (k + 1)).rich
        rw [show ((k : Int) + 1) = ((k + 1 : Nat) : Int) by omega, h1, hrn]
        omega
    · obtain rfl : k = j := by omega
      subst hgl
      have hci := (HL.out i hi).1
      have hfk := (HL.out k hj).2
      have hgi : gN L i = L[i] := gN_get hi
      have hgk : gN L k = L[k] := gN_get hj
      have hix : L[i] < 18446744073709551616 := H64.out _ (List.getElem_mem hi)
      have hkx : L[k] < 18446744073709551616 := H64.out _ (List.getElem_mem hj)
      rw [← hgi] at hci hix
      rw [← hgk] at hck hkx
      obtain ⟨x, hx⟩ : ∃ x, gN L i = x := ⟨_, rfl⟩
      obtain ⟨y, hy⟩ : ∃ y, gN L k = y := ⟨_, rfl⟩
      rw [hx] at hci hix hlo
      rw [hy] at hck hkx hhi
      have d1 : decide ((y : Int) ≤ (ww : Int)) = false := decide_eq_false (by omega)
      have d1' : decide (y ≤ ww) = false := decide_eq_false (by omega)
      obtain ⟨d, hd⟩ : ∃ d, ww - x = d := ⟨_, rfl⟩
      obtain ⟨v, hv⟩ : ∃ v, y - d = v := ⟨_, rfl⟩
      have hw1 : IntKind.u64.wrap ((ww : Int) - (x : Int)) = (d : Nat) := by rw [u64_mod]; omega
      have hw2 : IntKind.u64.wrap ((y : Int) - (d : Int)) = (v : Nat) := by rw [u64_mod]; omega
      have hir : (i : Int) < (L.length : Int) := by omega
      have HD := Lib.hid (show gN L k - (ww - gN L i) = v by rw [hx, hy, hd, hv])
      have hvb : v < 18446744073709551616 := by omega
      clear hd hv HL hx hy hgi hgk
      go_wp2_with fail
      go_quiet (fail)
      go_wp2_with fail
      obtain ⟨wp, hwp⟩ : ∃ wp, wp = wo.drewN nq := ⟨_, rfl⟩
      rw [← hwp]
      have HRp := Lib.hid (show RestsAt wp r ww L rest k (some bl) gp by rw [hwp]; exact HRk.out.ext (ext_drewN wo nq))
      have HonP := Lib.hid (show Only (fun q => q = r) w wp by rw [hwp]; exact Hon.out.drewN nq)
      have p0 : wp.cell? ⟨r, 0, none⟩ = some (.int .u64 (ww : Nat)) := by rw [hwp]; exact c0
      have p1 : wp.cell? ⟨r, 1, none⟩ = some (.slice (some ⟨bl, 0, none⟩) L.length lc) := by rw [hwp]; exact c1
      have p2 : wp.cell? ⟨r, 2, none⟩ = some (.slice pa rest.length pc) := by rw [hwp]; exact c2
      have pi : wp.cell? ⟨bl, i, none⟩ = some (.int .u64 (x : Nat)) := by rw [hwp]; exact hci
      have pk : wp.drew.cell? ⟨bl, k, none⟩ = some (.int .u64 (y : Nat)) := by rw [hwp]; exact hck
      have pf : wp.drew.frozen? ⟨bl, k, none⟩ = false := by rw [hwp]; exact hfk
      clear hwp c0 c1 c2 c3 hci hck hfk hf f3 hrn d1 d1'
      refine wp_region_held (S := fun w' => w'.cell? ⟨r, 0, none⟩ = some (.int .u64 (ww : Nat)) ∧ w'.cell? ⟨r, 1, none⟩ = some (.slice (some ⟨bl, 0, none⟩) L.length lc) ∧ w'.cell? ⟨r, 2, none⟩ = some (.slice pa rest.length pc) ∧ w'.cell? ⟨bl, i, none⟩ = some (.int .u64 (x : Nat))) (by kernel_rfl) ?_
      have hS0 : wp.drew.cell? ⟨r, 0, none⟩ = some (.int .u64 (ww : Nat)) ∧ wp.drew.cell? ⟨r, 1, none⟩ = some (.slice (some ⟨bl, 0, none⟩) L.length lc) ∧ wp.drew.cell? ⟨r, 2, none⟩ = some (.slice pa rest.length pc) ∧ wp.drew.cell? ⟨bl, i, none⟩ = some (.int .u64 (x : Nat)) := ⟨p0, p1, p2, pi⟩
      change wpAnyH _ _ _ _ _ _ _ _ (World.drew _)
      refine wpAnyH_take (i := 0) (oi := ⟨some 34, _, _, _, _, _⟩) (v := ?_) rfl (by kernel_rfl) (by kernel_rfl) (by kernel_rfl) (fun _ _ _ h => h) (Or.inl ⟨by rfl, ?_⟩) hS0 ?_
      rotate_left
      · (intro w' hSw; obtain ⟨s0, s1, s2, s3⟩ := hSw; go_simp; try (with_reducible rfl))
      simp only [Act.put, List.setIfInBounds_toArray, List.set_cons_zero, List.set_cons_succ]
      refine wpAnyH_take (i := 1) (oi := ⟨some 35, _, _, _, _, _⟩) (v := ?_) rfl (by kernel_rfl) (by kernel_rfl) (by kernel_rfl) (fun _ _ _ h => h) (Or.inl ⟨by rfl, ?_⟩) hS0 ?_
      rotate_left
      · (intro w' hSw; obtain ⟨s0, s1, s2, s3⟩ := hSw; go_simp; try (with_reducible rfl))
      simp only [Act.put, List.setIfInBounds_toArray, List.set_cons_zero, List.set_cons_succ]
      refine wpAnyH_take (i := 2) (oi := ⟨some 36, _, _, _, _, _⟩) (v := ?_) rfl (by kernel_rfl) (by kernel_rfl) (by kernel_rfl) (fun _ _ _ h => h) (Or.inl ⟨by rfl, ?_⟩) hS0 ?_
      rotate_left
      · (intro w' hSw; obtain ⟨s0, s1, s2, s3⟩ := hSw; go_simp; try (with_reducible rfl))
      simp only [Act.put, List.setIfInBounds_toArray, List.set_cons_zero, List.set_cons_succ]
      refine wpAnyH_take (i := 3) (oi := ⟨some 37, _, _, _, _, _⟩) (v := ?_) rfl (by kernel_rfl) (by kernel_rfl) (by kernel_rfl) (fun _ _ _ h => h) (Or.inl ⟨by rfl, ?_⟩) hS0 ?_
      rotate_left
      · (intro w' hSw; obtain ⟨s0, s1, s2, s3⟩ := hSw; go_simp; try (with_reducible rfl))
      simp only [Act.put, List.setIfInBounds_toArray, List.set_cons_zero, List.set_cons_succ]
      refine wpAnyH_take (i := 4) (oi := ⟨some 38, _, _, _, _, _⟩) (v := ?_) rfl (by kernel_rfl) (by kernel_rfl) (by kernel_rfl) (fun _ _ _ h => h) (Or.inl ⟨by rfl, ?_⟩) hS0 ?_
      rotate_left
      · (intro w' hSw; obtain ⟨s0, s1, s2, s3⟩ := hSw; go_simp; try (with_reducible rfl))
      simp only [Act.put, List.setIfInBounds_toArray, List.set_cons_zero, List.set_cons_succ]
      refine wpAnyH_take (i := 5) (oi := ⟨some 39, _, _, _, _, _⟩) (v := ?_) rfl (by kernel_rfl) (by kernel_rfl) (by kernel_rfl) (fun _ _ _ h => h) (Or.inl ⟨by rfl, ?_⟩) hS0 ?_
      rotate_left
      · (intro w' hSw; obtain ⟨s0, s1, s2, s3⟩ := hSw; go_simp; try (with_reducible rfl))
      simp only [Act.put, List.setIfInBounds_toArray, List.set_cons_zero, List.set_cons_succ]
      refine wpAnyH_take (i := 7) (oi := ⟨some 41, _, _, _, _, _⟩) (v := ?_) rfl (by kernel_rfl) (by kernel_rfl) (by kernel_rfl) (fun _ _ _ h => h) (Or.inl ⟨by rfl, ?_⟩) hS0 ?_
      rotate_left
      · (intro w' hSw; obtain ⟨s0, s1, s2, s3⟩ := hSw; go_simp; try (with_reducible rfl))
      simp only [Act.put, List.setIfInBounds_toArray, List.set_cons_zero, List.set_cons_succ]
      refine wpAnyH_take (i := 8) (oi := ⟨some 42, _, _, _, _, _⟩) (v := ?_) rfl (by kernel_rfl) (by kernel_rfl) (by kernel_rfl) (fun _ _ _ h => h) (Or.inl ⟨by rfl, ?_⟩) hS0 ?_
      rotate_left
      · (intro w' hSw; obtain ⟨s0, s1, s2, s3⟩ := hSw; go_simp; try (with_reducible rfl))
      simp only [Act.put, List.setIfInBounds_toArray, List.set_cons_zero, List.set_cons_succ]
      refine wpAnyH_take (i := 9) (oi := ⟨some 43, _, _, _, _, _⟩) (v := ?_) rfl (by kernel_rfl) (by kernel_rfl) (by kernel_rfl) (fun _ _ _ h => h) (Or.inl ⟨by rfl, ?_⟩) hS0 ?_
      rotate_left
      · (intro w' hSw; obtain ⟨s0, s1, s2, s3⟩ := hSw; go_simp; try (with_reducible rfl))
      simp only [Act.put, List.setIfInBounds_toArray, List.set_cons_zero, List.set_cons_succ]
      refine wpAnyH_take (i := 10) (oi := ⟨some 44, _, _, _, _, _⟩) (v := ?_) rfl (by kernel_rfl) (by kernel_rfl) (by kernel_rfl) (fun _ _ _ h => h) (Or.inl ⟨by rfl, ?_⟩) hS0 ?_
      rotate_left
      · (intro w' hSw; obtain ⟨s0, s1, s2, s3⟩ := hSw; go_simp; try (with_reducible rfl))
      simp only [Act.put, List.setIfInBounds_toArray, List.set_cons_zero, List.set_cons_succ]
      refine wpAnyH_take (i := 11) (oi := ⟨some 45, _, _, _, _, _⟩) (v := ?_) rfl (by kernel_rfl) (by kernel_rfl) (by kernel_rfl) (fun _ _ _ h => h) (Or.inl ⟨by rfl, ?_⟩) hS0 ?_
      rotate_left
      · (intro w' hSw; obtain ⟨s0, s1, s2, s3⟩ := hSw; go_simp; try (with_reducible rfl))
      simp only [Act.put, List.setIfInBounds_toArray, List.set_cons_zero, List.set_cons_succ]
      refine wpAnyH_take (i := 12) (oi := ⟨some 46, _, _, _, _, _⟩) (v := ?_) rfl (by kernel_rfl) (by kernel_rfl) (by kernel_rfl) (fun _ _ _ h => h) (Or.inl ⟨by rfl, ?_⟩) hS0 ?_
      rotate_left
      · (intro w' hSw; obtain ⟨s0, s1, s2, s3⟩ := hSw; go_simp; try (with_reducible rfl))
      simp only [Act.put, List.setIfInBounds_toArray, List.set_cons_zero, List.set_cons_succ]
      refine wpAnyH_take (i := 13) (oi := ⟨some 47, _, _, _, _, _⟩) (v := ?_) rfl (by kernel_rfl) (by kernel_rfl) (by kernel_rfl) (fun _ _ _ h => h) (Or.inl ⟨by rfl, ?_⟩) hS0 ?_
      rotate_left
      · (intro w' hSw; obtain ⟨s0, s1, s2, s3⟩ := hSw; go_simp; try (with_reducible rfl))
      simp only [Act.put, List.setIfInBounds_toArray, List.set_cons_zero, List.set_cons_succ]
      refine wpAnyH_take (i := 14) (oi := ⟨some 48, _, _, _, _, _⟩) (v := ?_) rfl (by kernel_rfl) (by kernel_rfl) (by kernel_rfl) (fun _ _ _ h => h) (Or.inl ⟨by rfl, ?_⟩) hS0 ?_
      rotate_left
      · (intro w' hSw; obtain ⟨s0, s1, s2, s3⟩ := hSw; go_simp; try (with_reducible rfl))
      simp only [Act.put, List.setIfInBounds_toArray, List.set_cons_zero, List.set_cons_succ]
      refine wpAnyH_take (i := 15) (oi := ⟨some 49, _, _, _, _, _⟩) (v := ?_) rfl (by kernel_rfl) (by kernel_rfl) (by kernel_rfl) (fun _ _ _ h => h) (Or.inl ⟨by rfl, ?_⟩) hS0 ?_
      rotate_left
      · (intro w' hSw; obtain ⟨s0, s1, s2, s3⟩ := hSw; go_simp; try (with_reducible rfl))
      simp only [Act.put, List.setIfInBounds_toArray, List.set_cons_zero, List.set_cons_succ]
      refine wpAnyH_take (i := 16) (oi := ⟨some 50, _, _, _, _, _⟩) (v := ?_) rfl (by kernel_rfl) (by kernel_rfl) (by kernel_rfl) (fun _ _ _ h => h) (Or.inl ⟨by rfl, ?_⟩) hS0 ?_
      rotate_left
      · (intro w' hSw; obtain ⟨s0, s1, s2, s3⟩ := hSw; go_simp; try (with_reducible rfl))
      simp only [Act.put, List.setIfInBounds_toArray, List.set_cons_zero, List.set_cons_succ]
      refine wpAnyH_take (i := 17) (oi := ⟨some 51, _, _, _, _, _⟩) (v := ?_) rfl (by kernel_rfl) (by kernel_rfl) (by kernel_rfl) (fun _ _ _ h => h) (Or.inl ⟨by rfl, ?_⟩) hS0 ?_
      rotate_left
      · (intro w' hSw; obtain ⟨s0, s1, s2, s3⟩ := hSw; go_simp; try (with_reducible rfl))
      simp only [Act.put, List.setIfInBounds_toArray, List.set_cons_zero, List.set_cons_succ]
      refine wpAnyH_take (i := 18) (oi := ⟨some 52, _, _, _, _, _⟩) (v := ?_) rfl (by kernel_rfl) (by kernel_rfl) (by kernel_rfl) (fun _ _ _ h => h) (Or.inl ⟨by rfl, ?_⟩) hS0 ?_
      rotate_left
      · (intro w' hSw; obtain ⟨s0, s1, s2, s3⟩ := hSw; go_simp; try (with_reducible rfl))
      simp only [Act.put, List.setIfInBounds_toArray, List.set_cons_zero, List.set_cons_succ]
      refine wpAnyH_all (rs := [6]) (by kernel_rfl) (by simp) ?_
      intro i hi
      rw [List.mem_singleton] at hi
      subst hi
      refine wpOp_runG (o := ⟨some 40, _, _, _, _, _⟩) rfl rfl fun K' hK => ?_
      go_simp
      refine hK _ _ ⟨hS0, ?_⟩
      clear hK K'
      try simp only [Act.put, List.setIfInBounds_toArray, List.set_cons_zero, List.set_cons_succ]
      refine wpAnyH_take (i := 19) (oi := ⟨some 53, _, _, _, _, _⟩) (v := ?_) rfl (by kernel_rfl) (by kernel_rfl) (by kernel_rfl) (fun _ _ _ h => h) (Or.inl ⟨by rfl, ?_⟩) hS0 ?_
      rotate_left
      · (intro w' hSw; obtain ⟨s0, s1, s2, s3⟩ := hSw; go_simp; try (with_reducible rfl))
      simp only [Act.put, List.setIfInBounds_toArray, List.set_cons_zero, List.set_cons_succ]
      refine wpAnyH_take (i := 20) (oi := ⟨some 54, _, _, _, _, _⟩) (v := ?_) rfl (by kernel_rfl) (by kernel_rfl) (by kernel_rfl) (fun _ _ _ h => h) (Or.inl ⟨by rfl, ?_⟩) hS0 ?_
      rotate_left
      · (intro w' hSw; obtain ⟨s0, s1, s2, s3⟩ := hSw; go_simp; try (with_reducible rfl))
      simp only [Act.put, List.setIfInBounds_toArray, List.set_cons_zero, List.set_cons_succ]
      refine wpAnyH_all (rs := [21]) (by kernel_rfl) (by simp) ?_
      intro i hi
      rw [List.mem_singleton] at hi
      subst hi
      refine wpOp_runG (o := ⟨none, _, _, _, _, _⟩) rfl rfl fun K' hK => ?_
      go_simp
      refine hK _ _ ⟨⟨by rw [World.cell?_drew, cell_set_ite, if_neg (fun e => hblr e.symm)]; exact p0, by rw [World.cell?_drew, cell_set_ite, if_neg (fun e => hblr e.symm)]; exact p1, by rw [World.cell?_drew, cell_set_ite, if_neg (fun e => hblr e.symm)]; exact p2, by rw [World.cell?_drew, cell_set_ite, if_pos rfl, if_neg hij]; exact pi⟩, ?_⟩
      clear hK K'
      try simp only [Act.put, List.setIfInBounds_toArray, List.set_cons_zero, List.set_cons_succ]
      refine wpAnyH_done (by kernel_rfl) ?_ _
      obtain ⟨wq, hwq⟩ : ∃ wq, wq = (wp.setCell ⟨bl, k, none⟩ (.int .u64 (v : Nat))).drew := ⟨_, rfl⟩
      rw [← hwq]
      have HRq := Lib.hid (show RestsAt wq r ww (L.set k v) rest k (some bl) gp by rw [hwq]; exact (HRp.out.setLeft (by omega) k v).ext (ext_drew _))
      have HonQ := Lib.hid (show Only (fpR r (some bl) gp) w wq by
        rw [hwq]
        exact ((HonP.out.mono (fun q _ e => .inl e)).setCell (p := ⟨bl, k, none⟩) (fun _ => .inr (.inl rfl)) _).drew)
      clear hwq p0 p1 p2 pi pk pf hS0
      obtain ⟨bl', lc', pa', pc', hgl', _, p0, p1, p2, p3, pf, hOl, hPp, hL⟩ := HRq.out.cells (by rw [List.length_set]; omega)
      cases hgl'
      rw [List.length_set] at p1
      have hfi := (hL i (by rw [List.length_set]; exact hi)).2
      obtain ⟨u, hu⟩ : ∃ u, wq.cell? ⟨bl, i, none⟩ = some u := ⟨_, (hL i (by rw [List.length_set]; exact hi)).1⟩
      clear hL hOl hPp pf p3
      go_wp2_with fail
      refine wp_region_held (S := fun w' => w'.cell? ⟨r, 0, none⟩ = some (.int .u64 (ww : Nat)) ∧ w'.cell? ⟨r, 1, none⟩ = some (.slice (some ⟨bl, 0, none⟩) L.length lc') ∧ w'.cell? ⟨r, 2, none⟩ = some (.slice pa' rest.length pc') ∧ True) (by kernel_rfl) ?_
      have hS0 : wq.drew.cell? ⟨r, 0, none⟩ = some (.int .u64 (ww : Nat)) ∧ wq.drew.cell? ⟨r, 1, none⟩ = some (.slice (some ⟨bl, 0, none⟩) L.length lc') ∧ wq.drew.cell? ⟨r, 2, none⟩ = some (.slice pa' rest.length pc') ∧ True := ⟨p0, p1, p2, trivial⟩
      have hud : wq.drew.cell? ⟨bl, i, none⟩ = some u := hu
      have hfd : wq.drew.frozen? ⟨bl, i, none⟩ = false := hfi
      change wpAnyH _ _ _ _ _ _ _ _ (World.drew _)
      refine wpAnyH_take (i := 0) (oi := ⟨some 55, _, _, _, _, _⟩) (v := ?_) rfl (by kernel_rfl) (by kernel_rfl) (by kernel_rfl) (fun _ _ _ h => h) (Or.inl ⟨by rfl, ?_⟩) hS0 ?_
      rotate_left
      · (intro w' hSw; obtain ⟨s0, s1, s2, s3⟩ := hSw; go_simp; try (with_reducible rfl))
      simp only [Act.put, List.setIfInBounds_toArray, List.set_cons_zero, List.set_cons_succ]
      refine wpAnyH_take (i := 1) (oi := ⟨some 56, _, _, _, _, _⟩) (v := ?_) rfl (by kernel_rfl) (by kernel_rfl) (by kernel_rfl) (fun _ _ _ h => h) (Or.inl ⟨by rfl, ?_⟩) hS0 ?_
      rotate_left
      · (intro w' hSw; obtain ⟨s0, s1, s2, s3⟩ := hSw; go_simp; try (with_reducible rfl))
      simp only [Act.put, List.setIfInBounds_toArray, List.set_cons_zero, List.set_cons_succ]
      refine wpAnyH_take (i := 2) (oi := ⟨some 57, _, _, _, _, _⟩) (v := ?_) rfl (by kernel_rfl) (by kernel_rfl) (by kernel_rfl) (fun _ _ _ h => h) (Or.inl ⟨by rfl, ?_⟩) hS0 ?_
      rotate_left
      · (intro w' hSw; obtain ⟨s0, s1, s2, s3⟩ := hSw; go_simp; try (with_reducible rfl))
      simp only [Act.put, List.setIfInBounds_toArray, List.set_cons_zero, List.set_cons_succ]
      refine wpAnyH_take (i := 3) (oi := ⟨some 58, _, _, _, _, _⟩) (v := ?_) rfl (by kernel_rfl) (by kernel_rfl) (by kernel_rfl) (fun _ _ _ h => h) (Or.inl ⟨by rfl, ?_⟩) hS0 ?_
      rotate_left
      · (intro w' hSw; obtain ⟨s0, s1, s2, s3⟩ := hSw; go_simp; try (with_reducible rfl))
      simp only [Act.put, List.setIfInBounds_toArray, List.set_cons_zero, List.set_cons_succ]
      refine wpAnyH_take (i := 4) (oi := ⟨some 59, _, _, _, _, _⟩) (v := ?_) rfl (by kernel_rfl) (by kernel_rfl) (by kernel_rfl) (fun _ _ _ h => h) (Or.inl ⟨by rfl, ?_⟩) hS0 ?_
      rotate_left
      · (intro w' hSw; obtain ⟨s0, s1, s2, s3⟩ := hSw; go_simp; try (with_reducible rfl))
      simp only [Act.put, List.setIfInBounds_toArray, List.set_cons_zero, List.set_cons_succ]
      refine wpAnyH_take (i := 5) (oi := ⟨some 60, _, _, _, _, _⟩) (v := ?_) rfl (by kernel_rfl) (by kernel_rfl) (by kernel_rfl) (fun _ _ _ h => h) (Or.inl ⟨by rfl, ?_⟩) hS0 ?_
      rotate_left
      · (intro w' hSw; obtain ⟨s0, s1, s2, s3⟩ := hSw; go_simp; try (with_reducible rfl))
      simp only [Act.put, List.setIfInBounds_toArray, List.set_cons_zero, List.set_cons_succ]
      refine wpAnyH_take (i := 6) (oi := ⟨some 61, _, _, _, _, _⟩) (v := ?_) rfl (by kernel_rfl) (by kernel_rfl) (by kernel_rfl) (fun _ _ _ h => h) (Or.inl ⟨by rfl, ?_⟩) hS0 ?_
      rotate_left
      · (intro w' hSw; obtain ⟨s0, s1, s2, s3⟩ := hSw; go_simp; try (with_reducible rfl))
      simp only [Act.put, List.setIfInBounds_toArray, List.set_cons_zero, List.set_cons_succ]
      refine wpAnyH_take (i := 7) (oi := ⟨some 62, _, _, _, _, _⟩) (v := ?_) rfl (by kernel_rfl) (by kernel_rfl) (by kernel_rfl) (fun _ _ _ h => h) (Or.inl ⟨by rfl, ?_⟩) hS0 ?_
      rotate_left
      · (intro w' hSw; obtain ⟨s0, s1, s2, s3⟩ := hSw; go_simp; try (with_reducible rfl))
      simp only [Act.put, List.setIfInBounds_toArray, List.set_cons_zero, List.set_cons_succ]
      refine wpAnyH_take (i := 8) (oi := ⟨some 63, _, _, _, _, _⟩) (v := ?_) rfl (by kernel_rfl) (by kernel_rfl) (by kernel_rfl) (fun _ _ _ h => h) (Or.inl ⟨by rfl, ?_⟩) hS0 ?_
      rotate_left
      · (intro w' hSw; obtain ⟨s0, s1, s2, s3⟩ := hSw; go_simp; try (with_reducible rfl))
      simp only [Act.put, List.setIfInBounds_toArray, List.set_cons_zero, List.set_cons_succ]
      refine wpAnyH_take (i := 9) (oi := ⟨some 64, _, _, _, _, _⟩) (v := ?_) rfl (by kernel_rfl) (by kernel_rfl) (by kernel_rfl) (fun _ _ _ h => h) (Or.inl ⟨by rfl, ?_⟩) hS0 ?_
      rotate_left
      · (intro w' hSw; obtain ⟨s0, s1, s2, s3⟩ := hSw; go_simp; try (with_reducible rfl))
      simp only [Act.put, List.setIfInBounds_toArray, List.set_cons_zero, List.set_cons_succ]
      refine wpAnyH_all (rs := [10]) (by kernel_rfl) (by simp) ?_
      intro i hi
      rw [List.mem_singleton] at hi
      subst hi
      refine wpOp_runG (o := ⟨none, _, _, _, _, _⟩) rfl rfl fun K' hK => ?_
      go_simp
      refine hK _ _ ⟨⟨by rw [World.cell?_drew, cell_set_ite, if_neg (fun e => hblr e.symm)]; exact p0, by rw [World.cell?_drew, cell_set_ite, if_neg (fun e => hblr e.symm)]; exact p1, by rw [World.cell?_drew, cell_set_ite, if_neg (fun e => hblr e.symm)]; exact p2, trivial⟩, ?_⟩
      clear hK K'
      try simp only [Act.put, List.setIfInBounds_toArray, List.set_cons_zero, List.set_cons_succ]
      refine wpAnyH_done (by kernel_rfl) ?_ _
      obtain ⟨wt, hwt⟩ : ∃ wt, wt = (wq.setCell ⟨bl, i, none⟩ (.int .u64 (ww : Nat))).drew := ⟨_, rfl⟩
      rw [← hwt]
      have HRt := Lib.hid (show RestsAt wt r ww ((L.set k v).set i ww) rest k (some bl) gp by rw [hwt]; exact (HRq.out.setLeft (by rw [List.length_set]; omega) i ww).ext (ext_drew _))
      have HonT := Lib.hid (show Only (fpR r (some bl) gp) w wt by
        rw [hwt]
        exact (HonQ.out.setCell (p := ⟨bl, i, none⟩) (fun _ => .inr (.inl rfl)) _).drew)
      clear hwt p0 p1 p2 hS0 hu hud hfi hfd
      obtain ⟨L2, hL2⟩ : ∃ L2, (L.set k v).set i ww = L2 := ⟨_, rfl⟩
      have hL2l : L2.length = L.length := by rw [← hL2]; simp
      have hkv : L2[k]'(by rw [hL2l]; exact hj) = v := by
        simp only [← hL2]
        rw [List.getElem_set_ne (fun e => hij e), List.getElem_set_self]
      have HL2 := Lib.hid hL2
      rw [hL2] at HRt
      clear hL2
      obtain ⟨la2, lc2, pa2, pc2, h1, h2, hPp, h4, h5, h6⟩ := HRt.out
      rcases h2.addr with ⟨_, _, h0, _⟩ | ⟨bl', hgl', rfl, _⟩
      · omega
      cases hgl'
      have p0 : wt.cell? ⟨r, 0, none⟩ = some (.int .u64 (ww : Nat)) := cell_of_row wt r 0 _ _ (0, 0) h1
      have p1 : wt.cell? ⟨r, 1, none⟩ = some (.slice (some ⟨bl, 0, none⟩) L2.length lc2) := cell_of_row wt r 1 _ _ (0, 0) h1
      have p2 : wt.cell? ⟨r, 2, none⟩ = some (.slice pa2 rest.length pc2) := cell_of_row wt r 2 _ _ (0, 0) h1
      have pf2 := frozen_of_row wt r 2 _ _ h1
      have pk : wt.cell? ⟨bl, k, none⟩ = some (.int .u64 (v : Nat)) := by
        rw [h2.cell k (by omega)]
        simp [u64v, hL2l, hj, hkv]
      rw [hL2l] at p1
      have HPp := Lib.hid hPp
      have H1 := Lib.hid h1
      have H2 := Lib.hid h2
      have hrl2 := (Array.getElem?_eq_some_iff.1 h1).1
      clear hkv hL2l hPp h1 h2
      by_cases hvw : v < ww
      · have d2 : decide ((v : Int) < (ww : Int)) = true := decide_eq_true (by omega)
        have d2' : decide (v < ww) = true := decide_eq_true hvw
        go_wp2_with fail
        go_quiet (fail)
        obtain ⟨wu, hwu⟩ : ∃ wu, wu = wt.drewN nq := ⟨_, rfl⟩
        rw [← hwu]
        have hBu : Below wt.heap.size wt wu := by rw [hwu]; exact ext_drewN wt nq
        have HPu := Lib.hid (HPp.out.keep (fun b hb => hBu.block b (HPp.out.lt b hb)))
        have H1u := Lib.hid ((hBu.block r hrl2).trans H1.out)
        have H2u := Lib.hid (H2.out.ext hBu)
        have HonU := Lib.hid (HonT.out.ext hBu)
        have q2 : wu.cell? ⟨r, 2, none⟩ = some (.slice pa2 rest.length pc2) := by rw [hwu]; exact p2
        have qf2 : wu.frozen? ⟨r, 2, none⟩ = false := by rw [hwu]; exact pf2
        have hru : r < wu.heap.size := by have := hBu.size; omega
        have hSe := poor_search rest k pa2 pc2 gp wu (by omega) HPu.out hrise
        have hAl : (rest.takeWhile (fun x => decide (x < k))).length ≤ rest.length := (List.takeWhile_sublist _).length_le
        have HIn := Lib.hid (insAt_take (j := k) (l := rest))
        generalize (rest.takeWhile (fun x => decide (x < k))).length = at_ at hSe hAl HIn
        have HG := Lib.hid (HPu.out.lt)
        clear hwu hBu p0 p1 p2 pk pf2 d2 d2' H1 H2 HPp
        go_wp2_with (first
          | (go_at_call 139; refine hSe.mono ?_; rintro e w2 ⟨⟨bv, rfl⟩, q, rfl⟩; clear hSe; have hIs := (poor_insert rest at_ k pa2 pc2 gp (wu.drewN q).heap.size ((wu.drewN q).alloc (.cells #[.int .i64 (k : Nat)] 3)) (by omega) hAl (HPu.out.keep (fun b hb => (show _ = wu.heap[b]? from (ext_alloc (wu.drewN q) _).block b (HG.out b hb)))) (heap_alloc_new _ _) (fun e => by have := HG.out _ e; simp [World.drewN] at this)); rw [← HIn.out] at hIs; have HIs := Lib.hid hIs; clear hIs)
          | (go_at_call 140; refine HIs.out.mono ?_; rintro e w3 ⟨ao3, cap3, g3, rfl, hP3, hg3, hon3⟩; have HP3 := Lib.hid hP3; have Hg3 := Lib.hid hg3; have Hon3 := Lib.hid hon3; clear hP3 hg3 hon3; have u2 := (Hon3.out.cell (b := r) (by simp; omega) h5 2).trans (((bcell (ext_alloc (wu.drewN q) (.cells #[.int .i64 (k : Nat)] 3))).1 r 2 hru).trans q2); have u3 := (Hon3.out.frozen (b := r) (by simp; omega) h5 2).trans (((bcell (ext_alloc (wu.drewN q) (.cells #[.int .i64 (k : Nat)] 3))).2 r 2 hru).trans qf2)))
        go_ret
        have hz : wu.heap.size ≤ ((wu.drewN q).alloc (.cells #[.int .i64 (k : Nat)] 3)).heap.size := by simp
        have hA : Below wu.heap.size wu ((wu.drewN q).alloc (.cells #[.int .i64 (k : Nat)] 3)) := (ext_drewN wu q).alloc (by simp) _
        have h1 : w3.heap[r]? = some (.cells (restCs ww (some ⟨bl, 0, none⟩) L2.length lc2 pa2 rest.length pc2 k) 175 (0, 0)) := (Hon3.out.same r (by omega) h5).trans ((hA.block r hru).trans H1u.out)
        have h2 := rest_set h1 2 (.slice ao3 (insAt k rest).length cap3)
        have ho : Only (fun q => q = r) w3 (w3.setCell ⟨r, 2, none⟩ (.slice ao3 (insAt k rest).length cap3)) := (Only.refl (fun q => q = r) w3).setCell (p := ⟨r, 2, none⟩) (fun _ => rfl) _
        have h3 : Own w3 (some ⟨bl, 0, none⟩) lc2 (some bl) 23 1 L2.length (u64v L2) := (H2u.out.ext hA).keep (fun b hb => Hon3.out.same b ((H2u.out.ext hA).lt b hb) (fun e => h6 b hb e))
        have hg3r : g3 ≠ some r := fun e => by
          rcases Hg3.out with e1 | ⟨q', e1, hl⟩
          · exact h5 (by rw [← e1, e])
          · rw [e1] at e; cases e; omega
        refine ⟨rfl, g3, ?_, ?_, ?_⟩
        · rw [HD.out, if_pos hvw, HL2.out]
          refine ⟨_, lc2, ao3, cap3, h2, h3.keep (fun b hb => ho.same b (h3.lt b hb) (fun e => h4 (by rw [hb, e]))), HP3.out.keep (fun b hb => ho.same b (HP3.out.lt b hb) (fun e => hg3r (by rw [hb, e]))), h4, hg3r, fun b hb e => ?_⟩
          rcases Hg3.out with e1 | ⟨q', e1, hl⟩
          · exact h6 b hb (by rw [← e1]; exact e)
          · have := H2u.out.lt b hb
            rw [e1] at e; cases e; omega
        · have hzu := HonU.out.size
          rcases Hg3.out with e1 | ⟨q', e1, hl⟩
          · exact .inl e1
          · exact .inr ⟨q', e1, by omega⟩
        · exact ((HonU.out.ext hA).trans Hon3.out (fun b _ e => .inr (.inr e))).trans ho (fun b _ e => .inl e)
      · have d2 : decide ((v : Int) < (ww : Int)) = false := decide_eq_false (by omega)
        have d2' : decide (v < ww) = false := decide_eq_false hvw
        go_wp2_with fail
        go_quiet (fail)
        go_wp2_with fail
        go_ret
        refine ⟨rfl, gp, ?_, .inl rfl, HonT.out.drewN _⟩
        rw [HD.out, if_neg hvw, HL2.out]
        exact HRt.out.ext (ext_drewN _ _)
end Go.Proofs.YtcklfffeimnfeaaGreat

namespace Go.Proofs.YtcklfffeimnfeaaGreat
open Go.RowKit

theorem intElem : Elem Tryz.prog 173 3 1 8 (.int .i64 0) := Elem.mk' Tryz.underlying173 (by kernel_rfl) rfl (by decide)
theorem u64ElemR : Elem Tryz.prog 106 23 1 8 (.int .u64 0) := Elem.mk' Tryz.underlying106 (by kernel_rfl) rfl (by decide)
theorem PoorR.of_own {w : World} {ao : Option Addr} {cap : Nat} {g : Option Nat} {P : List Nat} (h : Own w ao cap g 3 1 P.length (i64v P)) : PoorR w ao cap g P := by
  refine ⟨h.capLe.1, h.capLe.2, ?_⟩
  rcases h.2 with ⟨h1, hc, hn0, h2⟩ | ⟨b, cur, hg, ha, hh, hn, hc, hs, ht⟩
  · exact .inl ⟨h1, h2, hc⟩
  · refine .inr ⟨b, 0, cur, hg, ha, hh, by omega, fun i hi => ?_⟩
    rw [Nat.zero_add, ← ht, List.getElem?_take, if_pos (by omega)]
    simp
def restK (l : List ArcD) (k : Nat) : List Nat := (l.take k).map (fun a => l.length * a.2)
def poorK (l : List ArcD) (ww k : Nat) : List Nat := (List.range k).filter (fun i => decide (gN (restK l l.length) i < ww))
theorem restK_len {l : List ArcD} {k : Nat} (h : k ≤ l.length) : (restK l k).length = k := by simp [restK]; omega
theorem restK_snoc {l : List ArcD} {k : Nat} (h : k < l.length) : restK l (k + 1) = restK l k ++ [l.length * l[k].2] := by
  unfold restK
  rw [List.take_succ_eq_append_getElem h, List.map_append]; rfl
theorem restK_get {l : List ArcD} {k : Nat} (h : k < l.length) : gN (restK l l.length) k = l.length * l[k].2 := by
  rw [gN_get (by rw [restK_len (Nat.le_refl _)]; exact h)]
  simp [restK]
theorem poorK_len (l : List ArcD) (ww k : Nat) : (poorK l ww k).length ≤ k := by
  unfold poorK
  exact Nat.le_trans (List.length_filter_le _ _) (by simp)
theorem poorK_succ (l : List ArcD) (ww k : Nat) : poorK l ww (k + 1) = if gN (restK l l.length) k < ww then poorK l ww k ++ [k] else poorK l ww k := by
  unfold poorK
  rw [List.range_succ, List.filter_append]
  by_cases h : gN (restK l l.length) k < ww
  · rw [if_pos h]; simp [h]
  · rw [if_neg h]; simp [h]
def beginI (l : List ArcD) (ww r : Nat) (w : World) (v12 : Value) (wr : World) : Prop :=
  ∃ (k : Nat) (la : Option Addr) (lc : Nat) (gl : Option Nat) (pa : Option Addr) (pc : Nat) (gp : Option Nat), k ≤ l.length ∧ v12 = .int .i64 (k : Nat) ∧
    wr.heap[r]? = some (.cells (restCs ww la k lc pa (poorK l ww k).length pc 0) 175 (0, 0)) ∧ Own wr la lc gl 23 1 k (u64v (restK l k)) ∧ Own wr pa pc gp 3 1 (poorK l ww k).length (i64v (poorK l ww k)) ∧
    gl ≠ some r ∧ gp ≠ some r ∧ (∀ q, gl = some q → gp ≠ some q) ∧ (∀ q, gl = some q → w.heap.size ≤ q) ∧ (∀ q, gp = some q → w.heap.size ≤ q) ∧ Below w.heap.size w wr
def BeginRet (l : List ArcD) (ww : Nat) (w : World) (e : Ending) (w' : World) : Prop :=
  ∃ r gl gp, e = .returned (.pointer (some ⟨r, 0, none⟩)) ∧ RestsAt w' r ww (restK l l.length) (poorK l ww l.length) 0 gl gp ∧ (∀ q, fpR r gl gp q → w.heap.size ≤ q) ∧ Below w.heap.size w w'
theorem rbegin_any (l : List ArcD) (ao : Option Addr) (cap : Nat) (fp : Nat → Prop) (w : World) (hl : l.length ≤ 1000) (hrd : RdS arcRep fp w ao l) :
    Calls Tryz.prog 110 #[.slice ao l.length cap] w (BeginRet l (sumA l) w) := by
  have hE := intElem
  have hE2 := u64ElemR
  have HSm := Lib.hid (gsum_any l ao cap fp w (by omega) hrd)
  have HR := Lib.hid hrd
  have HL := Lib.hid hl
  obtain ⟨ww, hww⟩ : ∃ ww, sumA l = ww := ⟨_, rfl⟩
  rw [hww] at HSm ⊢
  clear hrd hww
  go_enter Tryz.func110, Tryz.ntmps110
  go_wp2_with (go_at_call 84; refine HSm.out.mono ?_; rintro e w1 ⟨rfl, hB1⟩; have HB1 := Lib.hid hB1; clear hB1)
  have hz1 := HB1.out.size
  go_loopw [4, 12] (fun _ v12 wr => beginI l ww w1.heap.size w v12 wr) (fun _ v12 _ => l.length - (intOf v12).toNat)
  case atStart => exact ⟨0, none, 0, none, none, 0, none, Nat.zero_le _, rfl, heap_alloc_new w1 _, Own.nil _ _ _, Own.nil _ _ _, by simp, by simp, (fun q h => by cases h), (fun q h => by cases h), (fun q h => by cases h), HB1.out.alloc HB1.out.size _⟩
  case round =>
    obtain ⟨k, la, lc, gl, pa, pc, gp, hk, rfl, hrow, hOl, hOp, hglr, hgpr, hd, hgl, hgp, hB⟩ := hrel
    rename World => wo
    obtain ⟨r, hr⟩ : ∃ r, w1.heap.size = r := ⟨_, rfl⟩
    rw [hr] at hrow hglr hgpr ⊢
    have hrl := (Array.getElem?_eq_some_iff.1 hrow).1
    have Hr := Lib.hid hr
    have HRow := Lib.hid hrow
    have HOl := Lib.hid hOl
    have HOp := Lib.hid hOp
    have HGl := Lib.hid hgl
    have HGp := Lib.hid hgp
    have HD := Lib.hid hd
    have HB := Lib.hid hB
    have hkb : k ≤ 1000 := by omega
    clear hrow hOl hOp hgl hgp hd hB hr
    by_cases hlt : k < l.length
    · obtain ⟨ba, off, rfl, hba, a0, a1, hok⟩ := (HR.out.ext HB.out).arc k hlt
      have hir : (k : Int) < (l.length : Int) := by omega
      have HRs := Lib.hid (restK_snoc hlt)
      have HPs := Lib.hid (poorK_succ l ww k)
      have HRg := Lib.hid (restK_get hlt)
      obtain ⟨X, hX⟩ : ∃ X, l[k] = X := ⟨_, rfl⟩
      rw [hX] at a0 a1 hok HRs HRg
      clear hX
      obtain ⟨X0, X1⟩ := X
      simp only at a0 a1 HRs HRg
      have hx1 : X1 < 4294967296 := hok.2
      obtain ⟨p, hp⟩ : ∃ p, l.length * X1 = p := ⟨_, rfl⟩
      have hpb : p < 18446744073709551616 := by
        rw [← hp]
        have : l.length * X1 ≤ 1000 * 4294967296 := Nat.mul_le_mul hl (by omega)
        omega
      have hpz : (l.length : Int) * (X1 : Int) = (p : Nat) := by rw [← hp]; simp
      have HNW := Lib.hid (show IntKind.u64.wrap (IntKind.u64.wrap (l.length : Int) * (X1 : Int)) = (p : Nat) by
        rw [show IntKind.u64.wrap (l.length : Int) = (l.length : Int) by rw [u64_mod]; omega, hpz, u64_mod]; omega)
      have hxw : IntKind.u64.wrap (X1 : Int) = (X1 : Int) := by rw [u64_mod]; omega
      rw [hp] at HRs HRg
      clear hp hpz hok
      obtain ⟨wb, hwb⟩ : ∃ wb, wo.alloc (.cells #[.int .u32 (X0 : Nat), .int .u32 (X1 : Nat)] 85) = wb := ⟨_, rfl⟩
      have HBb := Lib.hid (show Below wo.heap.size wo wb by rw [← hwb]; exact ext_alloc wo _)
      have hbx : wb.cell? ⟨wo.heap.size, 1, none⟩ = some (.int .u32 (X1 : Nat)) := by rw [← hwb]; simp [go_sem]
      have hbz : wb.heap.size = wo.heap.size + 1 := by rw [← hwb]; simp
      go_wp2_with fail
      have hgll := HOl.out.lt
      have HOlb := Lib.hid (HOl.out.ext HBb.out)
      have HRb := Lib.hid (show wb.heap[r]? = some (.cells (restCs ww la k lc pa (poorK l ww k).length pc 0) 175 (0, 0)) from (HBb.out.block r hrl).trans HRow.out)
      have HOpb := Lib.hid (HOp.out.ext HBb.out)
      have hrb : r < wb.heap.size := by omega
      have HC1 := Lib.hid (fun W (h : Below wb.heap.size wb W) => (show W.cell? ⟨r, 1, none⟩ = some (.slice la k lc) from ((bcell h).1 r 1 hrb).trans (cell_of_row wb r 1 _ _ (0, 0) HRb.out)))
      have HSx := Lib.hid (fun W (h : Below wb.heap.size wb W) => (show W.cell? ⟨wo.heap.size, 1, none⟩ = some (.int .u32 (X1 : Nat)) ∧ True ∧ True ∧ True from ⟨((bcell h).1 wo.heap.size 1 (by omega)).trans hbx, trivial, trivial, trivial⟩))
      have HHb := Lib.hid hbz
      clear a0 a1 hwb hbx
      refine wp_region_held (S := fun w' => w'.cell? ⟨wo.heap.size, 1, none⟩ = some (.int .u32 (X1 : Nat)) ∧ True ∧ True ∧ True) (by kernel_rfl) ?_
      have E8 := Lib.hid (ext_drew wb)
      change wpAnyH _ _ _ _ _ _ _ _ (World.drew _)
      generalize World.drew wb = w8 at E8 ⊢
      have hS0 := HSx.out w8 E8.out
      refine wpAnyH_take (i := 0) (oi := ⟨some 17, _, _, _, _, _⟩) (v := ?_) rfl (by kernel_rfl) (by kernel_rfl) (by kernel_rfl) (fun _ _ _ h => h) (Or.inl ⟨by rfl, ?_⟩) hS0 ?_
      rotate_left
      · (intro w' hSw; obtain ⟨s0, s1, s2, s3⟩ := hSw; go_simp; try (with_reducible rfl))
      simp only [Act.put, List.setIfInBounds_toArray, List.set_cons_zero, List.set_cons_succ]
      refine wpAnyH_take (i := 1) (oi := ⟨some 18, _, _, _, _, _⟩) (v := ?_) rfl (by kernel_rfl) (by kernel_rfl) (by kernel_rfl) (fun _ _ _ h => h) (Or.inl ⟨by rfl, ?_⟩) hS0 ?_
      rotate_left
      · (intro w' hSw; obtain ⟨s0, s1, s2, s3⟩ := hSw; go_simp; try (with_reducible rfl))
      simp only [Act.put, List.setIfInBounds_toArray, List.set_cons_zero, List.set_cons_succ]
      refine wpAnyH_take (i := 2) (oi := ⟨some 19, _, _, _, _, _⟩) (v := ?_) rfl (by kernel_rfl) (by kernel_rfl) (by kernel_rfl) (fun _ _ _ h => h) (Or.inl ⟨by rfl, ?_⟩) hS0 ?_
      rotate_left
      · (intro w' hSw; obtain ⟨s0, s1, s2, s3⟩ := hSw; go_simp; try (with_reducible rfl))
      simp only [Act.put, List.setIfInBounds_toArray, List.set_cons_zero, List.set_cons_succ]
      refine wpAnyH_take (i := 3) (oi := ⟨some 20, _, _, _, _, _⟩) (v := ?_) rfl (by kernel_rfl) (by kernel_rfl) (by kernel_rfl) (fun _ _ _ h => h) (Or.inl ⟨by rfl, ?_⟩) hS0 ?_
      rotate_left
      · (intro w' hSw; obtain ⟨s0, s1, s2, s3⟩ := hSw; go_simp; try (with_reducible rfl))
      simp only [Act.put, List.setIfInBounds_toArray, List.set_cons_zero, List.set_cons_succ]
      refine wpAnyH_take (i := 5) (oi := ⟨some 22, _, _, _, _, _⟩) (v := ?_) rfl (by kernel_rfl) (by kernel_rfl) (by kernel_rfl) (fun _ _ _ h => h) (Or.inl ⟨by rfl, ?_⟩) hS0 ?_
      rotate_left
      · (intro w' hSw; obtain ⟨s0, s1, s2, s3⟩ := hSw; go_simp; try (with_reducible rfl))
      simp only [Act.put, List.setIfInBounds_toArray, List.set_cons_zero, List.set_cons_succ]
      refine wpAnyH_take (i := 6) (oi := ⟨some 23, _, _, _, _, _⟩) (v := ?_) rfl (by kernel_rfl) (by kernel_rfl) (by kernel_rfl) (fun _ _ _ h => h) (Or.inl ⟨by rfl, ?_⟩) hS0 ?_
      rotate_left
      · (intro w' hSw; obtain ⟨s0, s1, s2, s3⟩ := hSw; go_simp; try (with_reducible rfl))
      simp only [Act.put, List.setIfInBounds_toArray, List.set_cons_zero, List.set_cons_succ]
      refine wpAnyH_take (i := 7) (oi := ⟨some 24, _, _, _, _, _⟩) (v := ?_) rfl (by kernel_rfl) (by kernel_rfl) (by kernel_rfl) (fun _ _ _ h => h) (Or.inl ⟨by rfl, ?_⟩) hS0 ?_
      rotate_left
      · (intro w' hSw; obtain ⟨s0, s1, s2, s3⟩ := hSw; go_simp; try (with_reducible rfl))
      simp only [Act.put, List.setIfInBounds_toArray, List.set_cons_zero, List.set_cons_succ]
      refine wpAnyH_take (i := 8) (oi := ⟨some 25, _, _, _, _, _⟩) (v := ?_) rfl (by kernel_rfl) (by kernel_rfl) (by kernel_rfl) (fun _ _ _ h => h) (Or.inl ⟨by rfl, ?_⟩) hS0 ?_
      rotate_left
      · (intro w' hSw; obtain ⟨s0, s1, s2, s3⟩ := hSw; go_simp; try (with_reducible rfl))
      simp only [Act.put, List.setIfInBounds_toArray, List.set_cons_zero, List.set_cons_succ]
      refine wpAnyH_take (i := 9) (oi := ⟨some 26, _, _, _, _, _⟩) (v := ?_) rfl (by kernel_rfl) (by kernel_rfl) (by kernel_rfl) (fun _ _ _ h => h) (Or.inl ⟨by rfl, ?_⟩) hS0 ?_
      rotate_left
      · (intro w' hSw; obtain ⟨s0, s1, s2, s3⟩ := hSw; go_simp; try (with_reducible rfl))
      simp only [Act.put, List.setIfInBounds_toArray, List.set_cons_zero, List.set_cons_succ]
      refine wpAnyH_take (i := 10) (oi := ⟨some 27, _, _, _, _, _⟩) (v := ?_) rfl (by kernel_rfl) (by kernel_rfl) (by kernel_rfl) (fun _ _ _ h => h) (Or.inl ⟨by rfl, ?_⟩) hS0 ?_
      rotate_left
      · (intro w' hSw; obtain ⟨s0, s1, s2, s3⟩ := hSw; go_simp; try (with_reducible rfl))
      simp only [Act.put, List.setIfInBounds_toArray, List.set_cons_zero, List.set_cons_succ]
      refine wpAnyH_take (i := 11) (oi := ⟨some 28, _, _, _, _, _⟩) (v := ?_) rfl (by kernel_rfl) (by kernel_rfl) (by kernel_rfl) (fun _ _ _ h => h) (Or.inl ⟨by rfl, ?_⟩) hS0 ?_
      rotate_left
      · (intro w' hSw; obtain ⟨s0, s1, s2, s3⟩ := hSw; go_simp; try (with_reducible rfl))
      simp only [Act.put, List.setIfInBounds_toArray, List.set_cons_zero, List.set_cons_succ]
      rw [HNW.out]
      refine wpAnyH_all (rs := [4, 12]) (by kernel_rfl) (by simp) ?_
      intro i' hi'
      simp only [List.mem_cons, List.not_mem_nil, or_false] at hi'
      rcases hi' with rfl | rfl
      · refine wpOp_runG (o := ⟨some 21, _, _, _, _, _⟩) rfl rfl fun K' hK => ?_
        have hgc := HC1.out w8 E8.out
        go_simp
        clear hgc
        refine hK _ _ ⟨HSx.out w8 E8.out, ?_⟩
        clear hK K'
        try simp only [Act.put, List.setIfInBounds_toArray, List.set_cons_zero, List.set_cons_succ]
        refine wpAnyH_all (rs := [12]) (by kernel_rfl) (by simp) ?_
        intro i hi
        rw [List.mem_singleton] at hi
        subst hi
        refine wpOp_runG (o := ⟨some 29, _, _, _, _, _⟩) rfl rfl fun K' hK => ?_
        go_simp
        obtain ⟨w10, hw10⟩ : ∃ w', w8.alloc (.cells #[.int .u64 (p : Nat)] 23) = w' := ⟨_, rfl⟩
        have HSr := Lib.hid (show Src Tryz.prog 1 106 (.slice (some ⟨w8.heap.size, 0, none⟩) 1 1) 1 [.int .u64 (p : Nat)] w10 by
          rw [← hw10]
          exact Src.ofSlice (w8.alloc (.cells #[.int .u64 (p : Nat)] 23)) Tryz.underlying106 ⟨w8.heap.size, 0, none⟩ 1 1 [.int .u64 (p : Nat)] rfl (fun j u hu => by
            rw [Addr.add_lit, Nat.zero_add, World.cell?_alloc_new]
            simpa using hu) (by simp [Value.oneCell']))
        have EA : Below w8.heap.size w8 w10 := by rw [← hw10]; exact ext_alloc _ _
        rw [hw10]
        have E10 := Lib.hid (E8.out.trans (EA.mono E8.out.size))
        clear hw10 EA
        refine hK _ _ ⟨HSx.out w10 E10.out, ?_⟩
        clear hK K'
        try simp only [Act.put, List.setIfInBounds_toArray, List.set_cons_zero, List.set_cons_succ]
        refine wpAnyH_all (rs := [13]) (by kernel_rfl) (by simp) ?_
        intro i hi
        rw [List.mem_singleton] at hi
        subst hi
        refine wpOp_runG (o := ⟨some 30, _, _, _, _, _⟩) rfl rfl fun K' hK => ?_
        refine wp_app (.tmp 21) (.tmp 29) 106 106 rfl hE2 (HOlb.out.ext E10.out) rfl rfl HSr.out (by simp [maxLen]; omega) (by omega) ?_
        intro ao3 cap3 g3 w9 ho3 hg3 hon3
        have hz9 := E10.out.size
        have hgl9 : r < w10.heap.size := by omega
        have hth : w9.heap[r]? = some (.cells (restCs ww la k lc pa (poorK l ww k).length pc 0) 175 (0, 0)) := (hon3.same r hgl9 hglr).trans ((E10.out.block r hrb).trans HRb.out)
        have hgf := frozen_of_row w9 r 1 _ _ hth
        obtain ⟨u9, hu9⟩ : ∃ u, w9.cell? ⟨r, 1, none⟩ = some u := ⟨_, cell_of_row w9 r 1 _ _ (0, 0) hth⟩
        have hs9 : w9.cell? ⟨wo.heap.size, 1, none⟩ = some (.int .u32 (X1 : Nat)) := (hon3.cell (b := wo.heap.size) (by omega) (fun e => by have := hgll _ e; omega) 1).trans (HSx.out w10 E10.out).1
        have hop9 : Own w9 pa pc gp 3 1 (poorK l ww k).length (i64v (poorK l ww k)) := (HOpb.out.ext E10.out).keep (fun b hb => hon3.same b ((HOpb.out.ext E10.out).lt b hb) (fun e => HD.out b e hb))
        have hgg : (∀ q, g3 = some q → w.heap.size ≤ q) ∧ g3 ≠ some r ∧ (∀ q, g3 = some q → gp ≠ some q) := by
          have hwz := HB.out.size
          rcases hg3 with rfl | rfl
          · exact ⟨HGl.out, hglr, HD.out⟩
          · refine ⟨fun q e => ?_, fun e => ?_, fun q e e2 => ?_⟩
            · cases e; omega
            · cases e; omega
            · cases e
              have := (HOpb.out.lt _ e2); omega
        have hbw : Below w.heap.size w w9 := (HB.out.trans (HBb.out.mono HB.out.size)).trans (E10.out.mono (by have := HB.out.size; omega)) |>.trans (hon3.below (by have := HB.out.size; omega) (fun q hq e => by have := HGl.out q e; omega))
        have Hth := Lib.hid hth
        have Ho3 := Lib.hid ho3
        have Hop9 := Lib.hid hop9
        have Hgg := Lib.hid hgg
        have Hbw := Lib.hid hbw
        have Hon3 := Lib.hid hon3.size
        clear ho3 hg3 hop9 hgg hbw hon3 hth
        refine hK _ _ ⟨⟨hs9, trivial, trivial, trivial⟩, ?_⟩
        clear hK K'
        try simp only [Act.put, List.setIfInBounds_toArray, List.set_cons_zero, List.set_cons_succ]
        have hS0 : w9.cell? ⟨wo.heap.size, 1, none⟩ = some (.int .u32 (X1 : Nat)) ∧ True ∧ True ∧ True := ⟨hs9, trivial, trivial, trivial⟩
        refine wpAnyH_take (i := 14) (oi := ⟨some 31, _, _, _, _, _⟩) (v := ?_) rfl (by kernel_rfl) (by kernel_rfl) (by kernel_rfl) (fun _ _ _ h => h) (Or.inl ⟨by rfl, ?_⟩) hS0 ?_
        rotate_left
        · (intro w' hSw; obtain ⟨s0, s1, s2, s3⟩ := hSw; go_simp; try (with_reducible rfl))
        simp only [Act.put, List.setIfInBounds_toArray, List.set_cons_zero, List.set_cons_succ]
        refine wpAnyH_take (i := 15) (oi := ⟨some 32, _, _, _, _, _⟩) (v := ?_) rfl (by kernel_rfl) (by kernel_rfl) (by kernel_rfl) (fun _ _ _ h => h) (Or.inl ⟨by rfl, ?_⟩) hS0 ?_
        rotate_left
        · (intro w' hSw; obtain ⟨s0, s1, s2, s3⟩ := hSw; go_simp; try (with_reducible rfl))
        simp only [Act.put, List.setIfInBounds_toArray, List.set_cons_zero, List.set_cons_succ]
        refine wpAnyH_all (rs := [16]) (by kernel_rfl) (by simp) ?_
        intro i hi
        rw [List.mem_singleton] at hi
        subst hi
        refine wpOp_runG (o := ⟨none, _, _, _, _, _⟩) rfl rfl fun K' hK => ?_
        go_simp
        refine hK _ _ ⟨⟨by rw [cell_set_ite, if_neg (fun e => by have : wo.heap.size = r := e; omega)]; exact hs9, trivial, trivial, trivial⟩, ?_⟩
        clear hK K'
        try simp only [Act.put, List.setIfInBounds_toArray, List.set_cons_zero, List.set_cons_succ]
        refine wpAnyH_done (by kernel_rfl) ?_ _
        have hh := rest_set Hth.out 1 (.slice ao3 (k + 1) cap3)
        have ho : Only (fun q => q = r) w9 (w9.setCell ⟨r, 1, none⟩ (.slice ao3 (k + 1) cap3)) := (Only.refl (fun q => q = r) w9).setCell (p := ⟨r, 1, none⟩) (fun _ => rfl) _
        obtain ⟨wq, hwq⟩ : ∃ wq, wq = w9.setCell ⟨r, 1, none⟩ (.slice ao3 (k + 1) cap3) := ⟨_, rfl⟩
        rw [← hwq] at hh ho ⊢
        have HRq := Lib.hid (show wq.heap[r]? = some (.cells (restCs ww ao3 (k + 1) cap3 pa (poorK l ww k).length pc 0) 175 (0, 0)) from hh)
        have HOq := Lib.hid (show Own wq ao3 cap3 g3 23 1 (k + 1) (u64v (restK l (k + 1))) by
          rw [HRs.out, show u64v (restK l k ++ [p]) = u64v (restK l k) ++ [.int .u64 (p : Nat)] by simp [u64v]]
          exact Ho3.out.keep (fun b hb => ho.same b (Ho3.out.lt b hb) (fun e => Hgg.out.2.1 (by rw [hb, e]))))
        have HPq := Lib.hid (Hop9.out.keep (fun b hb => ho.same b (Hop9.out.lt b hb) (fun e => hgpr (by rw [hb, e]))))
        have HBq := Lib.hid (show Below w.heap.size w wq from Hbw.out.trans (ho.below Hbw.out.size (fun q hq e => by have := Hr.out; omega)))
        have hrq : r < wq.heap.size := (Array.getElem?_eq_some_iff.1 hh).1
        obtain ⟨b3, rfl, rfl, _⟩ := HOq.out.pos (by omega)
        have q0 : wq.cell? ⟨r, 0, none⟩ = some (.int .u64 (ww : Nat)) := cell_of_row wq r 0 _ _ (0, 0) HRq.out
        have q1 : wq.cell? ⟨r, 1, none⟩ = some (.slice (some ⟨b3, 0, none⟩) (k + 1) cap3) := cell_of_row wq r 1 _ _ (0, 0) HRq.out
        have q2 : wq.cell? ⟨r, 2, none⟩ = some (.slice pa (poorK l ww k).length pc) := cell_of_row wq r 2 _ _ (0, 0) HRq.out
        have qc : wq.cell? ⟨b3, k, none⟩ = some (.int .u64 (p : Nat)) := by
          rw [HOq.out.cell k (by omega), HRs.out]
          simp [u64v, restK_len hk]
        have hks : (k : Int) < ((k + 1 : Nat) : Int) := by omega
        have hks2 : k < k + 1 := by omega
        clear hwq hh ho Hth Ho3 Hop9 Hbw hu9 hs9 hgf hS0 hz9 hgl9
        by_cases hpw : p < ww
        · have d1 : decide ((p : Int) < (ww : Int)) = true := decide_eq_true (by omega)
          have d1' : decide (p < ww) = true := decide_eq_true hpw
          go_wp2_with fail
          go_quiet (fail)
          obtain ⟨wu, hwu⟩ : ∃ wu, wu = wq.drewN nq := ⟨_, rfl⟩
          rw [← hwu]
          have hBu : Below wq.heap.size wq wu := by rw [hwu]; exact ext_drewN _ _
          have hzu : wu.heap.size = wq.heap.size := by rw [hwu]; rfl
          have HRu := Lib.hid (show wu.heap[r]? = some (.cells (restCs ww (some ⟨b3, 0, none⟩) (k + 1) cap3 pa (poorK l ww k).length pc 0) 175 (0, 0)) by rw [hwu]; exact HRq.out)
          have HOu := Lib.hid (HOq.out.ext hBu)
          have HPu := Lib.hid (HPq.out.ext hBu)
          have HBu := Lib.hid (HBq.out.trans (hBu.mono HBq.out.size))
          have hpl : (poorK l ww k).length ≤ 1000 := by have := poorK_len l ww k; omega
          have u2 : wu.cell? ⟨r, 2, none⟩ = some (.slice pa (poorK l ww k).length pc) := by rw [hwu]; exact q2
          have hgr : (∀ b, gp = some b → b < wu.heap.size) := HPu.out.lt
          have Hzu := Lib.hid hzu
          rw [← hzu] at hrq
          clear hwu q0 q1 q2 qc d1 d1' hks hks2 hBu hzu
          go_wp2_with (at_builtin; refine wpList_app rfl (.tmp 49) (.tmp 51) 173 173 rfl hE (HPu.out.ext (ext_alloc wu _)) rfl rfl (Src.ofSlice (wu.alloc (.cells #[.int .i64 (k : Nat)] 3)) Tryz.underlying173 ⟨wu.heap.size, 0, none⟩ 1 1 [.int .i64 (k : Nat)] rfl (fun j u hu => by rw [Addr.add_lit, Nat.zero_add, World.cell?_alloc_new]; simpa using hu) (by simp [Value.oneCell'])) (by simp [maxLen]; omega) (by omega) ?_; intro ao4 cap4 g4 w4 ho4 hg4 hon4; have h4 := (hon4.same r (by simp; omega) hgpr).trans (((ext_alloc wu (.cells #[.int .i64 (k : Nat)] 3)).block r hrq).trans HRu.out); have v2 := cell_of_row w4 r 2 _ _ (0, 0) h4; have f2 := frozen_of_row w4 r 2 _ _ h4; have H4 := Lib.hid h4; have Ho4 := Lib.hid ho4; have Hg4 := Lib.hid hg4; have Hon4 := Lib.hid hon4; clear h4 ho4 hg4 hon4)
          go_roundw
          case rel =>
            have hA := ext_alloc wu (.cells #[.int .i64 (k : Nat)] 3)
            have h5 := rest_set H4.out 2 (.slice ao4 ((poorK l ww k).length + 1) cap4)
            have hps : poorK l ww (k + 1) = poorK l ww k ++ [k] := by rw [HPs.out, HRg.out, if_pos hpw]
            have ho : Only (fun q => q = r) w4 (w4.setCell ⟨r, 2, none⟩ (.slice ao4 ((poorK l ww k).length + 1) cap4)) := (Only.refl (fun q => q = r) w4).setCell (p := ⟨r, 2, none⟩) (fun _ => rfl) _
            have hO4 : Own w4 (some ⟨b3, 0, none⟩) cap3 (some b3) 23 1 (k + 1) (u64v (restK l (k + 1))) := (HOu.out.ext hA).keep (fun b hb => Hon4.out.same b ((HOu.out.ext hA).lt b hb) (fun e => Hgg.out.2.2 b hb e))
            have hP4 : Own w4 ao4 cap4 g4 3 1 (poorK l ww (k + 1)).length (i64v (poorK l ww (k + 1))) := by
              rw [hps, show i64v (poorK l ww k ++ [k]) = i64v (poorK l ww k) ++ [.int .i64 (k : Nat)] by simp [i64v]]
              simpa using Ho4.out
            have hz : w.heap.size ≤ wu.heap.size := HBu.out.size
            have hg4 : (∀ q, g4 = some q → w.heap.size ≤ q) ∧ g4 ≠ some r ∧ (∀ q, g4 = some q → q ≠ b3) := by
              rcases Hg4.out with e | e
              · rw [e]; exact ⟨HGp.out, hgpr, fun q hq e2 => Hgg.out.2.2 b3 rfl (by rw [hq, e2])⟩
              · have hb3 := HOu.out.lt b3 rfl
                rw [e]
                refine ⟨fun q hq => ?_, fun hq => ?_, fun q hq e2 => ?_⟩
                · cases hq; simp; omega
                · simp at hq; omega
                · simp at hq; omega
            refine ⟨k + 1, some ⟨b3, 0, none⟩, cap3, some b3, ao4, cap4, g4, by omega, by simp, ?_, hO4.keep (fun b hb => ho.same b (hO4.lt b hb) (fun e => Hgg.out.2.1 (by rw [hb, e]))), hP4.keep (fun b hb => ho.same b (hP4.lt b hb) (fun e => hg4.2.1 (by rw [hb, e]))), Hgg.out.2.1, hg4.2.1, fun q hq e => ?_, Hgg.out.1, hg4.1, ?_⟩
            · rw [show (poorK l ww (k + 1)).length = (poorK l ww k).length + 1 by rw [hps]; simp]
              exact h5
            · cases hq; exact hg4.2.2 b3 e rfl
            · have h6 : Below w.heap.size w w4 := (HBu.out.trans (hA.mono hz)).trans (Hon4.out.below (by simp; omega) (fun q hq e => by have := HGp.out q e; omega))
              exact h6.trans (ho.below h6.size (fun q hq e => by have := Hr.out; omega))
          case measure => simp [intOf]; omega
        · have d1 : decide ((p : Int) < (ww : Int)) = false := decide_eq_false (by omega)
          have d1' : decide (p < ww) = false := decide_eq_false hpw
          go_wp2_with fail
          go_quiet (fail)
          go_wp2_with fail
          go_roundw
          case rel =>
            refine ⟨k + 1, some ⟨b3, 0, none⟩, cap3, some b3, pa, pc, gp, by omega, by simp, ?_, HOq.out.ext (ext_drewN _ _), ?_, Hgg.out.2.1, hgpr, Hgg.out.2.2, Hgg.out.1, HGp.out, HBq.out.trans ((ext_drewN _ _).mono HBq.out.size)⟩
            · rw [HPs.out, HRg.out, if_neg hpw]; exact HRq.out
            · rw [HPs.out, HRg.out, if_neg hpw]; exact HPq.out.ext (ext_drewN _ _)
          case measure => simp [intOf]; omega
      · refine wpOp_runG (o := ⟨some 29, _, _, _, _, _⟩) rfl rfl fun K' hK => ?_
        go_simp
        obtain ⟨w10, hw10⟩ : ∃ w', w8.alloc (.cells #[.int .u64 (p : Nat)] 23) = w' := ⟨_, rfl⟩
        have HSr := Lib.hid (show Src Tryz.prog 1 106 (.slice (some ⟨w8.heap.size, 0, none⟩) 1 1) 1 [.int .u64 (p : Nat)] w10 by
          rw [← hw10]
          exact Src.ofSlice (w8.alloc (.cells #[.int .u64 (p : Nat)] 23)) Tryz.underlying106 ⟨w8.heap.size, 0, none⟩ 1 1 [.int .u64 (p : Nat)] rfl (fun j u hu => by
            rw [Addr.add_lit, Nat.zero_add, World.cell?_alloc_new]
            simpa using hu) (by simp [Value.oneCell']))
        have EA : Below w8.heap.size w8 w10 := by rw [← hw10]; exact ext_alloc _ _
        rw [hw10]
        have E10 := Lib.hid (E8.out.trans (EA.mono E8.out.size))
        clear hw10 EA
        refine hK _ _ ⟨HSx.out w10 E10.out, ?_⟩
        clear hK K'
        try simp only [Act.put, List.setIfInBounds_toArray, List.set_cons_zero, List.set_cons_succ]
        refine wpAnyH_all (rs := [4]) (by kernel_rfl) (by simp) ?_
        intro i hi
        rw [List.mem_singleton] at hi
        subst hi
        refine wpOp_runG (o := ⟨some 21, _, _, _, _, _⟩) rfl rfl fun K' hK => ?_
        have hgc := HC1.out w10 E10.out
        go_simp
        clear hgc
        refine hK _ _ ⟨HSx.out w10 E10.out, ?_⟩
        clear hK K'
        try simp only [Act.put, List.setIfInBounds_toArray, List.set_cons_zero, List.set_cons_succ]
        refine wpAnyH_all (rs := [13]) (by kernel_rfl) (by simp) ?_
        intro i hi
        rw [List.mem_singleton] at hi
        subst hi
        refine wpOp_runG (o := ⟨some 30, _, _, _, _, _⟩) rfl rfl fun K' hK => ?_
        refine wp_app (.tmp 21) (.tmp 29) 106 106 rfl hE2 (HOlb.out.ext E10.out) rfl rfl HSr.out (by simp [maxLen]; omega) (by omega) ?_
        intro ao3 cap3 g3 w9 ho3 hg3 hon3
        have hz9 := E10.out.size
        have hgl9 : r < w10.heap.size := by omega
        have hth : w9.heap[r]? = some (.cells (restCs ww la k lc pa (poorK l ww k).length pc 0) 175 (0, 0)) := (hon3.same r hgl9 hglr).trans ((E10.out.block r hrb).trans HRb.out)
        have hgf := frozen_of_row w9 r 1 _ _ hth
        obtain ⟨u9, hu9⟩ : ∃ u, w9.cell? ⟨r, 1, none⟩ = some u := ⟨_, cell_of_row w9 r 1 _ _ (0, 0) hth⟩
        have hs9 : w9.cell? ⟨wo.heap.size, 1, none⟩ = some (.int .u32 (X1 : Nat)) := (hon3.cell (b := wo.heap.size) (by omega) (fun e => by have := hgll _ e; omega) 1).trans (HSx.out w10 E10.out).1
        have hop9 : Own w9 pa pc gp 3 1 (poorK l ww k).length (i64v (poorK l ww k)) := (HOpb.out.ext E10.out).keep (fun b hb => hon3.same b ((HOpb.out.ext E10.out).lt b hb) (fun e => HD.out b e hb))
        have hgg : (∀ q, g3 = some q → w.heap.size ≤ q) ∧ g3 ≠ some r ∧ (∀ q, g3 = some q → gp ≠ some q) := by
          have hwz := HB.out.size
          rcases hg3 with rfl | rfl
          · exact ⟨HGl.out, hglr, HD.out⟩
          · refine ⟨fun q e => ?_, fun e => ?_, fun q e e2 => ?_⟩
            · cases e; omega
            · cases e; omega
            · cases e
              have := (HOpb.out.lt _ e2); omega
        have hbw : Below w.heap.size w w9 := (HB.out.trans (HBb.out.mono HB.out.size)).trans (E10.out.mono (by have := HB.out.size; omega)) |>.trans (hon3.below (by have := HB.out.size; omega) (fun q hq e => by have := HGl.out q e; omega))
        have Hth := Lib.hid hth
        have Ho3 := Lib.hid ho3
        have Hop9 := Lib.hid hop9
        have Hgg := Lib.hid hgg
        have Hbw := Lib.hid hbw
        have Hon3 := Lib.hid hon3.size
        clear ho3 hg3 hop9 hgg hbw hon3 hth
        refine hK _ _ ⟨⟨hs9, trivial, trivial, trivial⟩, ?_⟩
        clear hK K'
        try simp only [Act.put, List.setIfInBounds_toArray, List.set_cons_zero, List.set_cons_succ]
        have hS0 : w9.cell? ⟨wo.heap.size, 1, none⟩ = some (.int .u32 (X1 : Nat)) ∧ True ∧ True ∧ True := ⟨hs9, trivial, trivial, trivial⟩
        refine wpAnyH_take (i := 14) (oi := ⟨some 31, _, _, _, _, _⟩) (v := ?_) rfl (by kernel_rfl) (by kernel_rfl) (by kernel_rfl) (fun _ _ _ h => h) (Or.inl ⟨by rfl, ?_⟩) hS0 ?_
        rotate_left
        · (intro w' hSw; obtain ⟨s0, s1, s2, s3⟩ := hSw; go_simp; try (with_reducible rfl))
        simp only [Act.put, List.setIfInBounds_toArray, List.set_cons_zero, List.set_cons_succ]
        refine wpAnyH_take (i := 15) (oi := ⟨some 32, _, _, _, _, _⟩) (v := ?_) rfl (by kernel_rfl) (by kernel_rfl) (by kernel_rfl) (fun _ _ _ h => h) (Or.inl ⟨by rfl, ?_⟩) hS0 ?_
        rotate_left
        · (intro w' hSw; obtain ⟨s0, s1, s2, s3⟩ := hSw; go_simp; try (with_reducible rfl))
        simp only [Act.put, List.setIfInBounds_toArray, List.set_cons_zero, List.set_cons_succ]
        refine wpAnyH_all (rs := [16]) (by kernel_rfl) (by simp) ?_
        intro i hi
        rw [List.mem_singleton] at hi
        subst hi
        refine wpOp_runG (o := ⟨none, _, _, _, _, _⟩) rfl rfl fun K' hK => ?_
        go_simp
        refine hK _ _ ⟨⟨by rw [cell_set_ite, if_neg (fun e => by have : wo.heap.size = r := e; omega)]; exact hs9, trivial, trivial, trivial⟩, ?_⟩
        clear hK K'
        try simp only [Act.put, List.setIfInBounds_toArray, List.set_cons_zero, List.set_cons_succ]
        refine wpAnyH_done (by kernel_rfl) ?_ _
        have hh := rest_set Hth.out 1 (.slice ao3 (k + 1) cap3)
        have ho : Only (fun q => q = r) w9 (w9.setCell ⟨r, 1, none⟩ (.slice ao3 (k + 1) cap3)) := (Only.refl (fun q => q = r) w9).setCell (p := ⟨r, 1, none⟩) (fun _ => rfl) _
        obtain ⟨wq, hwq⟩ : ∃ wq, wq = w9.setCell ⟨r, 1, none⟩ (.slice ao3 (k + 1) cap3) := ⟨_, rfl⟩
        rw [← hwq] at hh ho ⊢
        have HRq := Lib.hid (show wq.heap[r]? = some (.cells (restCs ww ao3 (k + 1) cap3 pa (poorK l ww k).length pc 0) 175 (0, 0)) from hh)
        have HOq := Lib.hid (show Own wq ao3 cap3 g3 23 1 (k + 1) (u64v (restK l (k + 1))) by
          rw [HRs.out, show u64v (restK l k ++ [p]) = u64v (restK l k) ++ [.int .u64 (p : Nat)] by simp [u64v]]
          exact Ho3.out.keep (fun b hb => ho.same b (Ho3.out.lt b hb) (fun e => Hgg.out.2.1 (by rw [hb, e]))))
        have HPq := Lib.hid (Hop9.out.keep (fun b hb => ho.same b (Hop9.out.lt b hb) (fun e => hgpr (by rw [hb, e]))))
        have HBq := Lib.hid (show Below w.heap.size w wq from Hbw.out.trans (ho.below Hbw.out.size (fun q hq e => by have := Hr.out; omega)))
        have hrq : r < wq.heap.size := (Array.getElem?_eq_some_iff.1 hh).1
        obtain ⟨b3, rfl, rfl, _⟩ := HOq.out.pos (by omega)
        have q0 : wq.cell? ⟨r, 0, none⟩ = some (.int .u64 (ww : Nat)) := cell_of_row wq r 0 _ _ (0, 0) HRq.out
        have q1 : wq.cell? ⟨r, 1, none⟩ = some (.slice (some ⟨b3, 0, none⟩) (k + 1) cap3) := cell_of_row wq r 1 _ _ (0, 0) HRq.out
        have q2 : wq.cell? ⟨r, 2, none⟩ = some (.slice pa (poorK l ww k).length pc) := cell_of_row wq r 2 _ _ (0, 0) HRq.out
        have qc : wq.cell? ⟨b3, k, none⟩ = some (.int .u64 (p : Nat)) := by
          rw [HOq.out.cell k (by omega), HRs.out]
          simp [u64v, restK_len hk]
        have hks : (k : Int) < ((k + 1 : Nat) : Int) := by omega
        have hks2 : k < k + 1 := by omega
        clear hwq hh ho Hth Ho3 Hop9 Hbw hu9 hs9 hgf hS0 hz9 hgl9
        by_cases hpw : p < ww
        · have d1 : decide ((p : Int) < (ww : Int)) = true := decide_eq_true (by omega)
          have d1' : decide (p < ww) = true := decide_eq_true hpw
          go_wp2_with fail
          go_quiet (fail)
          obtain ⟨wu, hwu⟩ : ∃ wu, wu = wq.drewN nq := ⟨_, rfl⟩
          rw [← hwu]
          have hBu : Below wq.heap.size wq wu := by rw [hwu]; exact ext_drewN _ _
          have hzu : wu.heap.size = wq.heap.size := by rw [hwu]; rfl
          have HRu := Lib.hid (show wu.heap[r]? = some (.cells (restCs ww (some ⟨b3, 0, none⟩) (k + 1) cap3 pa (poorK l ww k).length pc 0) 175 (0, 0)) by rw [hwu]; exact HRq.out)
          have HOu := Lib.hid (HOq.out.ext hBu)
          have HPu := Lib.hid (HPq.out.ext hBu)
          have HBu := Lib.hid (HBq.out.trans (hBu.mono HBq.out.size))
          have hpl : (poorK l ww k).length ≤ 1000 := by have := poorK_len l ww k; omega
          have u2 : wu.cell? ⟨r, 2, none⟩ = some (.slice pa (poorK l ww k).length pc) := by rw [hwu]; exact q2
          have hgr : (∀ b, gp = some b → b < wu.heap.size) := HPu.out.lt
          have Hzu := Lib.hid hzu
          rw [← hzu] at hrq
          clear hwu q0 q1 q2 qc d1 d1' hks hks2 hBu hzu
          go_wp2_with (at_builtin; refine wpList_app rfl (.tmp 49) (.tmp 51) 173 173 rfl hE (HPu.out.ext (ext_alloc wu _)) rfl rfl (Src.ofSlice (wu.alloc (.cells #[.int .i64 (k : Nat)] 3)) Tryz.underlying173 ⟨wu.heap.size, 0, none⟩ 1 1 [.int .i64 (k : Nat)] rfl (fun j u hu => by rw [Addr.add_lit, Nat.zero_add, World.cell?_alloc_new]; simpa using hu) (by simp [Value.oneCell'])) (by simp [maxLen]; omega) (by omega) ?_; intro ao4 cap4 g4 w4 ho4 hg4 hon4; have h4 := (hon4.same r (by simp; omega) hgpr).trans (((ext_alloc wu (.cells #[.int .i64 (k : Nat)] 3)).block r hrq).trans HRu.out); have v2 := cell_of_row w4 r 2 _ _ (0, 0) h4; have f2 := frozen_of_row w4 r 2 _ _ h4; have H4 := Lib.hid h4; have Ho4 := Lib.hid ho4; have Hg4 := Lib.hid hg4; have Hon4 := Lib.hid hon4; clear h4 ho4 hg4 hon4)
          go_roundw
          case rel =>
            have hA := ext_alloc wu (.cells #[.int .i64 (k : Nat)] 3)
            have h5 := rest_set H4.out 2 (.slice ao4 ((poorK l ww k).length + 1) cap4)
            have hps : poorK l ww (k + 1) = poorK l ww k ++ [k] := by rw [HPs.out, HRg.out, if_pos hpw]
            have ho : Only (fun q => q = r) w4 (w4.setCell ⟨r, 2, none⟩ (.slice ao4 ((poorK l ww k).length + 1) cap4)) := (Only.refl (fun q => q = r) w4).setCell (p := ⟨r, 2, none⟩) (fun _ => rfl) _
            have hO4 : Own w4 (some ⟨b3, 0, none⟩) cap3 (some b3) 23 1 (k + 1) (u64v (restK l (k + 1))) := (HOu.out.ext hA).keep (fun b hb => Hon4.out.same b ((HOu.out.ext hA).lt b hb) (fun e => Hgg.out.2.2 b hb e))
            have hP4 : Own w4 ao4 cap4 g4 3 1 (poorK l ww (k + 1)).length (i64v (poorK l ww (k + 1))) := by
              rw [hps, show i64v (poorK l ww k ++ [k]) = i64v (poorK l ww k) ++ [.int .i64 (k : Nat)] by simp [i64v]]
              simpa using Ho4.out
            have hz : w.heap.size ≤ wu.heap.size := HBu.out.size
            have hg4 : (∀ q, g4 = some q → w.heap.size ≤ q) ∧ g4 ≠ some r ∧ (∀ q, g4 = some q → q ≠ b3) := by
              rcases Hg4.out with e | e
              · rw [e]; exact ⟨HGp.out, hgpr, fun q hq e2 => Hgg.out.2.2 b3 rfl (by rw [hq, e2])⟩
              · have hb3 := HOu.out.lt b3 rfl
                rw [e]
                refine ⟨fun q hq => ?_, fun hq => ?_, fun q hq e2 => ?_⟩
                · cases hq; simp; omega
                · simp at hq; omega
                · simp at hq; omega
            refine ⟨k + 1, some ⟨b3, 0, none⟩, cap3, some b3, ao4, cap4, g4, by omega, by simp, ?_, hO4.keep (fun b hb => ho.same b (hO4.lt b hb) (fun e => Hgg.out.2.1 (by rw [hb, e]))), hP4.keep (fun b hb => ho.same b (hP4.lt b hb) (fun e => hg4.2.1 (by rw [hb, e]))), Hgg.out.2.1, hg4.2.1, fun q hq e => ?_, Hgg.out.1, hg4.1, ?_⟩
            · rw [show (poorK l ww (k + 1)).length = (poorK l ww k).length + 1 by rw [hps]; simp]
              exact h5
            · cases hq; exact hg4.2.2 b3 e rfl
            · have h6 : Below w.heap.size w w4 := (HBu.out.trans (hA.mono hz)).trans (Hon4.out.below (by simp; omega) (fun q hq e => by have := HGp.out q e; omega))
              exact h6.trans (ho.below h6.size (fun q hq e => by have := Hr.out; omega))
          case measure => simp [intOf]; omega
        · have d1 : decide ((p : Int) < (ww : Int)) = false := decide_eq_false (by omega)
          have d1' : decide (p < ww) = false := decide_eq_false hpw
          go_wp2_with fail
          go_quiet (fail)
          go_wp2_with fail
          go_roundw
          case rel =>
            refine ⟨k + 1, some ⟨b3, 0, none⟩, cap3, some b3, pa, pc, gp, by omega, by simp, ?_, HOq.out.ext (ext_drewN _ _), ?_, Hgg.out.2.1, hgpr, Hgg.out.2.2, Hgg.out.1, HGp.out, HBq.out.trans ((ext_drewN _ _).mono HBq.out.size)⟩
            · rw [HPs.out, HRg.out, if_neg hpw]; exact HRq.out
            · rw [HPs.out, HRg.out, if_neg hpw]; exact HPq.out.ext (ext_drewN _ _)
          case measure => simp [intOf]; omega
    · obtain rfl : k = l.length := by omega
      go_wp2_with fail
      go_ret
      refine ⟨r, gl, gp, rfl, ⟨la, lc, pa, pc, ?_, ?_, PoorR.of_own HOp.out, hglr, hgpr, HD.out⟩, ?_, HB.out⟩
      · rw [restK_len (Nat.le_refl _)]; exact HRow.out
      · rw [restK_len (Nat.le_refl _)]; exact HOl.out
      · rintro q (rfl | hq | hq)
        · rw [← Hr.out]; exact hz1
        · exact HGl.out q hq
        · exact HGp.out q hq
end Go.Proofs.YtcklfffeimnfeaaGreat

namespace Go.Proofs.YtcklfffeimnfeaaGreat

theorem le_sum : ∀ {L : List Nat} {x : Nat}, x ∈ L → x ≤ L.sum
  | y :: L, x, h => by
    rw [List.sum_cons]
    rcases List.mem_cons.1 h with rfl | h
    · omega
    · have := le_sum h; omega
theorem rise_len : ∀ {P : List Nat} {a n : Nat}, P.Pairwise (· < ·) → (∀ x ∈ P, a ≤ x ∧ x < n) → P.length ≤ n - a
  | [], _, _, _, _ => by simp
  | x :: P, a, n, h, hb => by
    obtain ⟨h1, h2⟩ := List.pairwise_cons.1 h
    have h3 := rise_len (a := x + 1) (n := n) h2 (fun y hy => ⟨h1 y hy, (hb y (by simp [hy])).2⟩)
    have h4 := hb x (by simp)
    rw [List.length_cons]
    omega
/-- between two turns: f of them may still come -/
structure TInv (W : List Nat) (s : BSt) (poor : List Nat) (rich f : Nat) : Prop where
  b : BInv W s
  p : PInv W.sum s.1 poor rich
  few : s.1.countP (fun x => decide (x ≠ W.sum)) < f
  out : (brun W.sum f s).2 = buildT W
theorem TInv.plen {W : List Nat} {s : BSt} {poor : List Nat} {rich f : Nat} (h : TInv W s poor rich f) : poor.length ≤ W.length := by
  refine Nat.le_trans (rise_len (a := 0) (n := W.length) h.p.rise (fun x hx => ⟨by omega, ?_⟩)) (by omega)
  obtain ⟨hx2, _⟩ := (h.p.mem x).1 hx
  rw [← h.b.l1]; exact hx2
theorem TInv.start (W : List Nat) : TInv W (bstart W) ((List.range W.length).filter (fun i => decide (gN (bstart W).1 i < W.sum))) 0 (W.length + 1) := by
  have hl : (bstart W).1.length = W.length := by simp [bstart]
  refine ⟨BInv.start W, ?_, ?_, rfl⟩
  · have := PInv.start (w := W.sum) (bstart W).1
    rwa [hl] at this
  · have := List.countP_le_length (l := (bstart W).1) (p := fun x => decide (x ≠ W.sum))
    omega
theorem TInv.over {W : List Nat} {s : BSt} {rich f : Nat} (h : TInv W s [] rich f) : s.2 = buildT W := by
  have hn : bnext W.sum s = none := by unfold bnext; rw [h.p.low_none]
  rw [← h.out]
  cases f with
  | zero => rfl
  | succ f => simp only [brun, hn]
theorem TInv.entry {W : List Nat} {s : BSt} {poor : List Nat} {rich f : Nat} (h : TInv W s poor rich f) {x : Nat} (hx : x ∈ s.1) : x ≤ W.length * W.sum := by
  rw [← h.b.sum]; exact le_sum hx
/-- one turn more -/
theorem TInv.turn {W : List Nat} {s : BSt} {i : Nat} {rest : List Nat} {rich f : Nat} (h : TInv W s (i :: rest) rich f) :
    ∃ j, i < s.1.length ∧ j < s.1.length ∧ i ≠ j ∧ gN s.1 i < W.sum ∧ W.sum < gN s.1 j ∧ rich ≤ j ∧ (∀ k (hk : k < s.1.length), rich ≤ k → k < j → s.1[k] ≤ W.sum) ∧ rest.Pairwise (· < ·) ∧ (bturn W.sum s i j).1.countP (fun x => decide (x ≠ W.sum)) < s.1.countP (fun x => decide (x ≠ W.sum)) ∧
      ∃ f', TInv W (bturn W.sum s i j) (if gN s.1 j - (W.sum - gN s.1 i) < W.sum then insAt j rest else rest) j f' := by
  have hlo := h.p.low
  obtain ⟨j, hhi⟩ := h.b.rich hlo
  obtain ⟨hi, hil, _⟩ := lowI_some.1 hlo
  obtain ⟨hj, hjl, hjb⟩ := highI_some.1 hhi
  have hij : i ≠ j := fun e => by subst e; omega
  have hrj : rich ≤ j := by
    rcases Nat.lt_or_ge j rich with h1 | h1
    · have := h.p.past j hj h1; omega
    · exact h1
  have hgi := gN_get hi
  have hgj := gN_get hj
  have hn : bnext W.sum s = some (bturn W.sum s i j) := by unfold bnext; rw [hlo, hhi]
  obtain ⟨hb2, hc⟩ := h.b.next.2 _ hn
  refine ⟨j, hi, hj, hij, by rw [hgi]; exact hil, by rw [hgj]; exact hjl, hrj, fun k hk _ hkj => hjb k hkj, (List.pairwise_cons.1 h.p.rise).2, hc, ?_⟩
  have hfew := h.few
  have hout := h.out
  cases f with
  | zero => omega
  | succ f =>
    simp only [brun, hn] at hout
    exact ⟨f, hb2, h.p.turn (v := gN s.1 j - (W.sum - gN s.1 i)) hi hj hij hil hjl (fun k _ hkj => hjb k hkj), by omega, hout⟩
end Go.Proofs.YtcklfffeimnfeaaGreat
