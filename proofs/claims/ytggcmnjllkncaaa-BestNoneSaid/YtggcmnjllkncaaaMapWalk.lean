/- A range over a map, operation by operation. No program in sight. -/
import Derived.Test.YtggcmnjllkncaaaMapW
namespace Go.Proofs.Ytggcmnjllkncaaa
set_option linter.unusedSimpArgs false
set_option linter.unusedVariables false
set_option maxRecDepth 100000
open Go.RowKit

section
variable {P : Program} {ops : Array Oper} {rest : List Oper} {o : Oper} {a : Act} {Q : Exit → Act → World → Prop} {w : World}
theorem wpList_range_is (hg : o.guard = none) (m : Operand) (t : TypeId) (hop : o.op = Op.range t m) {k e : TypeId} (ht : P.underlying t = some (.map k e)) {b clk : Nat} {es : List MapEntry} (hm : a.eval m = .map (some b)) (h : MapIs w b es clk)
    (hK : wpList P ops Q rest (a.put o.dst (.pointer (some ⟨w.heap.size, 0, none⟩))) (w.alloc (.mapIter (some b) clk #[] clk))) : wpList P ops Q (o :: rest) a w := by
  refine wpList_plain hg fun K' hK' => ?_
  have hrun := run_range_is (P := P) ht h
  unfold Oper.wp
  simp [execOp, hop, hm, hrun, Result.andThen]
  exact hK' _ _ hK
theorem wpList_next_is (hg : o.guard = none) (it : Operand) (hop : o.op = Op.next it false) {r b clk : Nat} {seen : Array Nat} {es : List MapEntry} (hit : a.eval it = .pointer (some ⟨r, 0, none⟩)) (hr : IterIs w r b clk seen) (hb : MapIs w b es clk) (hold : ∀ x ∈ es, x.born < clk)
    (hDone : (leftOf es.toArray seen).size = 0 → wpList P ops Q rest (a.put o.dst (.tuple #[.bool false])) w)
    (hMore : ∀ (e : MapEntry) (w' : World), e ∈ (leftOf es.toArray seen).toList → IterIs w' r b clk (seen.push e.born) → Only (fun k => k = r) w w' → w'.heap.size = w.heap.size → wpList P ops Q rest (a.put o.dst (.tuple #[.bool true, e.key, e.val])) w') : wpList P ops Q (o :: rest) a w := by
  refine wpList_plain hg fun K' hK' => ?_
  unfold Oper.wp
  rcases run_next_is (P := P) hr hb hold o.type with ⟨h0, hrun⟩ | ⟨e, he, w', hrun, r1, r2, r3⟩
  · simp [execOp, hop, hit, hrun, Result.andThen]
    exact hK' _ _ (hDone h0)
  · simp [execOp, hop, hit, hrun, Result.andThen]
    exact hK' _ _ (hMore e w' he r1 r2 r3)
theorem wpList_entry_is (hg : o.guard = none) (it : Operand) (hop : o.op = Op.entry it) {r b clk : Nat} {seen : Array Nat} {es : List MapEntry} {e : MapEntry} (hit : a.eval it = .pointer (some ⟨r, 0, none⟩)) (hr : IterIs w r b clk (seen.push e.born)) (hb : MapIs w b es clk) (he : e ∈ es) (hn : (es.map (·.born)).Nodup)
    (hK : wpList P ops Q rest (a.put o.dst (.tuple #[e.key, e.val])) w) : wpList P ops Q (o :: rest) a w := by
  refine wpList_plain hg fun K' hK' => ?_
  have hrun := run_entry_is (P := P) hr hb he hn
  unfold Oper.wp
  simp [execOp, hop, hit, hrun, Result.andThen]
  exact hK' _ _ hK
end
theorem born_one : ∀ {es : List MapEntry}, (es.map (·.born)).Nodup → ∀ {x y : MapEntry}, x ∈ es → y ∈ es → x.born = y.born → x = y
  | [], _, _, _, h, _, _ => by cases h
  | e :: es, hn, x, y, hx, hy, h => by
    rw [List.map_cons, List.nodup_cons] at hn
    rcases List.mem_cons.1 hx with hx1 | hx1
    · rcases List.mem_cons.1 hy with hy1 | hy1
      · exact hx1.trans hy1.symm
      · exact absurd (List.mem_map.2 ⟨y, hy1, by rw [← h, hx1]⟩) hn.1
    · rcases List.mem_cons.1 hy with hy1 | hy1
      · exact absurd (List.mem_map.2 ⟨x, hx1, by rw [h, hy1]⟩) hn.1
      · exact born_one hn.2 hx1 hy1 h
end Go.Proofs.Ytggcmnjllkncaaa
