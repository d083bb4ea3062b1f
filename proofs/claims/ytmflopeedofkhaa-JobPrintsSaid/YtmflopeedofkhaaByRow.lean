/- Texts merged into one: RowW, StoreRow, JRow. -/
import Derived.Test.YtmflopeedofkhaaByBase
import Derived.Deep.MidRow
import Derived.Laws.Rows
import Derived.Laws.ResultCell
import Derived.Deep.RegionHeld
import Derived.Test.YtmflopeedofkhaaByText
namespace Go.Proofs.Ytmflopeedofkhaa
set_option linter.unusedSimpArgs false
set_option linter.unusedVariables false
set_option maxRecDepth 100000
open Go.RowKit

theorem setsAt_all (cur : Array Value) (cells : Array Value) (h : cells.size = cur.size) : setsAt cur 0 cells.toList = cells := by
  have h1 := setsAt_take cells.toList 0 cur (by simp; omega)
  have h2 := setsAt_size cells.toList 0 cur
  rw [← Array.toList_inj]
  rw [List.take_of_length_le (by simp [h2]; omega)] at h1
  simpa using h1
section
variable {P : Program} {ops : Array Oper} {rest : List Oper} {op : Oper} {a : Act} {w : World} {Q : Exit → Act → World → Prop}
theorem wpList_store_row (hgd : op.guard = none) (ty : TypeId) (x y : Operand) (ho : op.op = .store ty x y) {b : Nat} {cells cur : Array Value} {t : TypeId} (hx : a.eval x = .pointer (some ⟨b, 0, none⟩)) (hy : a.eval y = .agg cells)
    (hb : w.heap[b]? = some (.cells cur t (0, 0))) (hs : cells.size = cur.size) (hi : (P.info? ty).map (·.size) = some cells.size) (h1 : cells.all (·.oneCell') = true)
    (hK : ∀ w', w'.heap[b]? = some (.cells cells t (0, 0)) → Only (fun k => k = b) w w' → wpList P ops Q rest (a.put op.dst undef) w') : wpList P ops Q (op :: rest) a w := by
  refine wpList_store_mid hgd ty x y ho b 0 cells hx hy (fun j hj => ?_) hi h1 (hK _ ?_ (only_setCells b _ 0 w))
  · rw [Nat.zero_add]
    refine ⟨?_, frozen_of_row w b j cur t hb⟩
    rw [cell_of_row w b j cur t (0, 0) hb]
    simp; omega
  · have := heap_setCells_in b t (0, 0) cells.toList 0 w cur hb
    rwa [setsAt_all cur cells hs] at this
theorem results_row_tmp {fn : Func} {p u : Tmp} {ty : TypeId} (h : fn.results = #[.cell p ty, .tmp u]) (tmps : Array Value) (w : World) (g : Nat) (t : TypeId) (cs : Array Value) (fr : Nat × Nat) (d : TypeDesc)
    (hp : tmps.getD p undef = .pointer (some ⟨g, 0, none⟩)) (hg : w.heap[g]? = some (.cells cs t fr))
    (hu : P.underlying ty = some d) (hd : (match d with | .struct _ | .array _ _ => true | _ => false) = true) (hi : (P.info? ty).map (·.size) = some cs.size) :
    (results fn tmps).run P w = .ok (.tuple #[.agg cs, tmps.getD u undef]) w := by
  rw [results_cell_tmp h, hp]
  simp only [asAddr, Sem.run_pure, Result.andThen_ok]
  rw [run_loadVar_row w g t ty cs fr d hg hu hd hi]
  rfl
end
theorem wpList_load_rowg {P : Program} {ops : Array Oper} {rest : List Oper} {o : Oper} {a : Act} {w : World} {Q : Exit → Act → World → Prop} (hw : Region.wanted o (yielded ops a.tmps) = true) (ty : TypeId) (x : Operand) (ho : o.op = .load ty x)
    (g : Nat) (hx : a.eval x = .pointer (some ⟨g, 0, none⟩)) (t : TypeId) (cs : Array Value) (fr : Nat × Nat) (d : TypeDesc) (hg : w.heap[g]? = some (.cells cs t fr))
    (hu : P.underlying ty = some d) (hd : (match d with | .struct _ | .array _ _ => true | _ => false) = true) (hi : (P.info? ty).map (·.size) = some cs.size)
    (h : wpList P ops Q rest (a.put o.dst (.agg cs)) w) : wpList P ops Q (o :: rest) a w :=
  wpList_step fun _ hK => by rw [if_pos hw]; exact wp_load_row ty x ho g hx t cs fr d hg hu hd hi (hK _ _ h)
end Go.Proofs.Ytmflopeedofkhaa

namespace Go.Proofs.Ytmflopeedofkhaa
set_option linter.unusedSimpArgs false
set_option linter.unusedVariables false
set_option maxRecDepth 100000
open Go.RowKit

theorem step_store_row {P : Program} {ops : Array Oper} {op : Oper} {a : Act} {w : World} {K : Act → World → Prop} {Q : Exit → Act → World → Prop} {E : Prop} (hgd : op.guard = none) (ty : TypeId) (x y : Operand) (ho : op.op = .store ty x y) {b : Nat} {cells cur : Array Value} {t : TypeId} (hx : a.eval x = .pointer (some ⟨b, 0, none⟩)) (hy : a.eval y = .agg cells)
    (hb : w.heap[b]? = some (.cells cur t (0, 0))) (hs : cells.size = cur.size) (hi : (P.info? ty).map (·.size) = some cells.size) (h1 : cells.all (·.oneCell') = true)
    (hK : ∀ w', w'.heap[b]? = some (.cells cells t (0, 0)) → Only (fun k => k = b) w w' → K (a.put op.dst undef) w') : if Region.wanted op (yielded ops a.tmps) = true then Oper.wp P op a w K Q else E := by
  have hw : Region.wanted op (yielded ops a.tmps) = true := by simp [Region.wanted, hgd]
  rw [if_pos hw]
  refine wp_store_mid ty x y ho b 0 cells hx hy (fun j hj => ?_) hi h1 (hK _ ?_ (only_setCells b _ 0 w))
  · rw [Nat.zero_add]
    refine ⟨?_, frozen_of_row w b j cur t hb⟩
    rw [cell_of_row w b j cur t (0, 0) hb]
    simp; omega
  · have := heap_setCells_in b t (0, 0) cells.toList 0 w cur hb
    rwa [setsAt_all cur cells hs] at this
theorem results_row_one {P : Program} {fn : Func} {p : Tmp} {ty : TypeId} (h : fn.results = #[.cell p ty]) (tmps : Array Value) (w : World) (g : Nat) (t : TypeId) (cs : Array Value) (fr : Nat × Nat) (d : TypeDesc)
    (hp : tmps.getD p undef = .pointer (some ⟨g, 0, none⟩)) (hg : w.heap[g]? = some (.cells cs t fr))
    (hu : P.underlying ty = some d) (hd : (match d with | .struct _ | .array _ _ => true | _ => false) = true) (hi : (P.info? ty).map (·.size) = some cs.size) :
    (results fn tmps).run P w = .ok (.agg cs) w := by
  simp [results, h]
  rw [← Array.getD_eq_getD_getElem?, hp]
  simp only [asAddr, Sem.run_pure, Result.andThen_ok]
  rw [run_loadVar_row w g t ty cs fr d hg hu hd hi]
theorem wpOp_runG {P : Program} {ops : Array Oper} {Q : Exit → Act → World → Prop} {i : Nat} {o : Oper} {K : Act → World → Prop} {a : Act} {w : World} (ho : ops[i]? = some o) (hw : Region.wanted o (yielded ops a.tmps) = true)
    (h : ∀ K' : Act → World → Prop, (∀ a w, K a w → K' a w) → o.wp P a w K' Q) : wpOp P ops Q i K a w := by
  unfold wpOp
  rw [ho]
  simp only [hw, if_true]
  exact Or.inl (h K fun _ _ h => h)
theorem wp_store_rowG {P : Program} {Q : Exit → Act → World → Prop} {op : Oper} {a : Act} {w : World} {K : Act → World → Prop} (ty : TypeId) (x y : Operand) (ho : op.op = .store ty x y) {b : Nat} {cells cur : Array Value} {t : TypeId} (hx : a.eval x = .pointer (some ⟨b, 0, none⟩)) (hy : a.eval y = .agg cells)
    (hb : w.heap[b]? = some (.cells cur t (0, 0))) (hs : cells.size = cur.size) (hi : (P.info? ty).map (·.size) = some cells.size) (h1 : cells.all (·.oneCell') = true)
    (hK : ∀ w', w'.heap[b]? = some (.cells cells t (0, 0)) → Only (fun k => k = b) w w' → K (a.put op.dst undef) w') : op.wp P a w K Q := by
  refine wp_store_mid ty x y ho b 0 cells hx hy (fun j hj => ?_) hi h1 (hK _ ?_ (only_setCells b _ 0 w))
  · rw [Nat.zero_add]
    refine ⟨?_, frozen_of_row w b j cur t hb⟩
    rw [cell_of_row w b j cur t (0, 0) hb]
    simp; omega
  · have := heap_setCells_in b t (0, 0) cells.toList 0 w cur hb
    rwa [setsAt_all cur cells hs] at this
end Go.Proofs.Ytmflopeedofkhaa

namespace Go.Proofs.Ytmflopeedofkhaa
set_option linter.unusedSimpArgs false
set_option linter.unusedVariables false
set_option maxRecDepth 100000
open Go.RowKit

section
variable {F : Fence} {n : Nat} {P : Program} {ops : Array Oper} {rest : List Oper} {o : Oper} {a : Act} {w : World} {Q : Exit → Act → World → Prop}
theorem wpListIn_store_row19 (hgd : o.guard = none) (ty : TypeId) (x y : Operand) (ho : o.op = .store ty x y) {b : Nat} {cells cur : Array Value} {t : TypeId} (hx : a.eval x = .pointer (some ⟨b, 0, none⟩)) (hy : a.eval y = .agg cells)
    (hb : w.heap[b]? = some (.cells cur t (0, 0))) (hs : cells.size = cur.size) (hi : (P.info? ty).map (·.size) = some cells.size) (h1 : cells.all (·.oneCell') = true)
    (hK : ∀ w', w'.heap[b]? = some (.cells cells t (0, 0)) → Only (fun k => k = b) w w' → wpListIn F n P ops Q rest (a.put o.dst undef) w') : wpListIn F n P ops Q (o :: rest) a w := by
  have ht : w.there b 0 cells.size := fun j hj => by
    rw [Nat.zero_add]
    refine ⟨?_, frozen_of_row w b j cur t hb⟩
    rw [cell_of_row w b j cur t (0, 0) hb]
    simp; omega
  have hrow : (w.setCells b 0 cells.toList).heap[b]? = some (.cells cells t (0, 0)) := by
    have := heap_setCells_in b t (0, 0) cells.toList 0 w cur hb
    rwa [setsAt_all cur cells hs] at this
  refine wpListIn_plain hgd fun K hK' => ⟨fun f hf => ?_, ?_⟩
  · simp [Oper.about, ho] at hf
  · have hs : (o.semAt F.round a.eval).run P w = .ok .skip (w.setCells b 0 cells.toList) := by
      rw [Oper.semAt_eq _ _ _ (fun c h => by rw [ho] at h; cases h)]
      unfold execOp
      simp only [ho, hx, hy, Instr.storeAt, Instr.sureAddr, Sem.run_bind, Sem.run_pure, Result.andThen_ok, run_storeVar_mid w b 0 ty cells ht hi h1]
    rw [hs, Oper.uponIn_skip]
    exact hK' _ _ (hK _ hrow (only_setCells b _ 0 w))
theorem wpListIn_load_mid19 (hgd : o.guard = none) (ty : TypeId) (x : Operand) (ho : o.op = .load ty x) (b q : Nat) (hx : a.eval x = .pointer (some ⟨b, q, none⟩)) (cs : List Value) (d : TypeDesc) (hc : w.rangeAt b q cs)
    (hu : P.underlying ty = some d) (hd : d.isRow = true) (hi : (P.info? ty).map (·.size) = some cs.length)
    (h : wpListIn F n P ops Q rest (a.put o.dst (.agg cs.toArray)) w) : wpListIn F n P ops Q (o :: rest) a w := by
  refine wpListIn_plain hgd fun K hK => ⟨fun f hf => ?_, ?_⟩
  · simp [Oper.about, ho] at hf
  · have hs : (o.semAt F.round a.eval).run P w = .ok (.value (.agg cs.toArray)) w := by
      rw [Oper.semAt_eq _ _ _ (fun c h => by rw [ho] at h; cases h)]
      unfold execOp
      simp only [ho, hx, Instr.loadAt, Instr.sureAddr, Sem.run_bind, Sem.run_pure, Result.andThen_ok, run_loadVar_mid w b q ty cs d hc hu hd hi]
    rw [hs, Oper.uponIn_value]
    exact hK _ _ h
end
theorem prefix19_any (l : List UInt8) (w : World) :
    Calls Try.prog 22 #[.string (bs l), .string ⟨#[35]⟩] w fun e w' => e = .returned (.bool (l.head? == some 35)) ∧ w' = w := by
  match l with
  | [] =>
    have h0 : ¬ (1 : Int) ≤ ((bs []).size : Int) := by rw [bs_size]; simp
    have h1 : ((bs []).size : Int) < 1 := by rw [bs_size]; simp
    go_enter Try.func22, Try.ntmps22
    go_wp2
    go_ret
    exact ⟨rfl, rfl⟩
  | c :: r =>
    have h0 : (1 : Int) ≤ ((bs (c :: r)).size : Int) := by rw [bs_size]; simp; omega
    have h1 : ¬ ((bs (c :: r)).size : Int) < 1 := by rw [bs_size]; simp; omega
    have h2 : ((bs (c :: r)).extract 0 1).toList = [c] := by rw [bs_extract, bs_data, bs_toList]; simp
    go_enter Try.func22, Try.ntmps22
    go_wp2
    go_ret
    exact ⟨by simp, rfl⟩
end Go.Proofs.Ytmflopeedofkhaa
