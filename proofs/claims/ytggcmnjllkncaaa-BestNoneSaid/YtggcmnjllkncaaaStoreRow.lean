/- A whole row stored in a region that draws; a whole row as the one result. No program in sight. -/
import Derived.Test.YtggcmnjllkncaaaRowW
import Derived.Deep.RegionHeld
namespace Go.Proofs.Ytggcmnjllkncaaa
set_option linter.unusedSimpArgs false
set_option linter.unusedVariables false
set_option maxRecDepth 100000
open Go.RowKit

theorem step_store_row {P : Program} {ops : Array Oper} {op : Oper} {a : Act} {w : World} {K : Act → World → Prop} {Q : Exit → Act → World → Prop} {E : Prop} (hgd : op.guard = none) (ty : TypeId) (x y : Operand) (ho : op.op = .store ty x y) {b : Nat} {cells cur : Array Value} {t : TypeId} (hx : a.eval x = .pointer (some ⟨b, 0, none⟩)) (hy : a.eval y = .agg cells)
    (hb : w.heap[b]? = some (.cells cur t (0, 0))) (hs : cells.size = cur.size) (hi : (P.info? ty).map (·.size) = some cells.size) (h1 : cells.all (·.oneCell') = true)
    (hK : ∀ w', w'.heap[b]? = some (.cells cells t (0, 0)) → Only (fun k => k = b) w w' → K (a.put op.dst undef) w') : if Region.wanted op (yielded ops a.tmps) = true then Oper.wp P op a w K Q else E := by
  have hw : Region.wanted op (yielded ops a.tmps) = true := by simp [Region.wanted, hgd]
  rw [if_pos hw]
  refine wp_store_mid ty x y ho b 0 cells hx hy (fun j hj => ?_) hi h1 (hK _ ?_ (only_setCells b _ 0 w))
  · rw [Nat.zero_add]
    refine ⟨?_, frozen_of_row w b j cur t hb⟩
    rw [cell_of_row w b j cur t (0, 0) hb]
    simp; omega
  · have := heap_setCells_in b t (0, 0) cells.toList 0 w cur hb
    rwa [setsAt_all cur cells hs] at this
theorem results_row_one {P : Program} {fn : Func} {p : Tmp} {ty : TypeId} (h : fn.results = #[.cell p ty]) (tmps : Array Value) (w : World) (g : Nat) (t : TypeId) (cs : Array Value) (fr : Nat × Nat) (d : TypeDesc)
    (hp : tmps.getD p undef = .pointer (some ⟨g, 0, none⟩)) (hg : w.heap[g]? = some (.cells cs t fr))
    (hu : P.underlying ty = some d) (hd : (match d with | .struct _ | .array _ _ => true | _ => false) = true) (hi : (P.info? ty).map (·.size) = some cs.size) :
    (results fn tmps).run P w = .ok (.agg cs) w := by
  simp [results, h]
  rw [← Array.getD_eq_getD_getElem?, hp]
  simp only [asAddr, Sem.run_pure, Result.andThen_ok]
  rw [run_loadVar_row w g t ty cs fr d hg hu hd hi]
theorem wpOp_runG {P : Program} {ops : Array Oper} {Q : Exit → Act → World → Prop} {i : Nat} {o : Oper} {K : Act → World → Prop} {a : Act} {w : World} (ho : ops[i]? = some o) (hw : Region.wanted o (yielded ops a.tmps) = true)
    (h : ∀ K' : Act → World → Prop, (∀ a w, K a w → K' a w) → o.wp P a w K' Q) : wpOp P ops Q i K a w := by
  unfold wpOp
  rw [ho]
  simp only [hw, if_true]
  exact Or.inl (h K fun _ _ h => h)
theorem wp_store_rowG {P : Program} {Q : Exit → Act → World → Prop} {op : Oper} {a : Act} {w : World} {K : Act → World → Prop} (ty : TypeId) (x y : Operand) (ho : op.op = .store ty x y) {b : Nat} {cells cur : Array Value} {t : TypeId} (hx : a.eval x = .pointer (some ⟨b, 0, none⟩)) (hy : a.eval y = .agg cells)
    (hb : w.heap[b]? = some (.cells cur t (0, 0))) (hs : cells.size = cur.size) (hi : (P.info? ty).map (·.size) = some cells.size) (h1 : cells.all (·.oneCell') = true)
    (hK : ∀ w', w'.heap[b]? = some (.cells cells t (0, 0)) → Only (fun k => k = b) w w' → K (a.put op.dst undef) w') : op.wp P a w K Q := by
  refine wp_store_mid ty x y ho b 0 cells hx hy (fun j hj => ?_) hi h1 (hK _ ?_ (only_setCells b _ 0 w))
  · rw [Nat.zero_add]
    refine ⟨?_, frozen_of_row w b j cur t hb⟩
    rw [cell_of_row w b j cur t (0, 0) hb]
    simp; omega
  · have := heap_setCells_in b t (0, 0) cells.toList 0 w cur hb
    rwa [setsAt_all cur cells hs] at this
end Go.Proofs.Ytggcmnjllkncaaa
