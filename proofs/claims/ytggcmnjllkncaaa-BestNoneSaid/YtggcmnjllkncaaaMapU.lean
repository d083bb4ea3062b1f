/- Maps with keys that are numbers of 32 bits: an insertion, a look-up. No program in sight. -/
import Derived.Test.YtggcmnjllkncaaaMapW
namespace Go.Proofs.Ytggcmnjllkncaaa
set_option linter.unusedSimpArgs false
set_option linter.unusedVariables false
set_option maxRecDepth 100000
open Go.RowKit

section
variable {P : Program}
theorem findNowU_none (key : Nat) : ∀ (es : List MapEntry) (i : Nat), (∀ x ∈ es, ∃ s : Nat, x.key = .int .u32 (s : Nat) ∧ key ≠ s) → Instr.findNow (.int .u32) (.int .u32 (key : Nat)) es i = some none
  | [], _, _ => rfl
  | e :: es, i, h => by
    obtain ⟨s, hs, hne⟩ := h e (by simp)
    unfold Instr.findNow
    rw [hs]
    have : ((key : Int) == (s : Int)) = false := beq_eq_false_iff_ne.2 (by omega)
    simp only [Instr.sameNow, this, if_true]
    exact findNowU_none key es (i + 1) (fun x hx => h x (by simp [hx]))
theorem findNowU_some (key : Nat) (v : Value) (n : Nat) : ∀ (es : List MapEntry) (i : Nat) (pre post : List MapEntry), es = pre ++ ⟨.int .u32 (key : Nat), v, n⟩ :: post → (∀ x ∈ pre, ∃ s : Nat, x.key = .int .u32 (s : Nat) ∧ key ≠ s) → Instr.findNow (.int .u32) (.int .u32 (key : Nat)) es i = some (some (i + pre.length, v))
  | _, i, [], post, rfl, _ => by
    unfold Instr.findNow
    simp [Instr.sameNow]
  | _, i, e :: pre, post, rfl, h => by
    obtain ⟨s, hs, hne⟩ := h e (by simp)
    rw [List.cons_append]
    unfold Instr.findNow
    rw [hs]
    have : ((key : Int) == (s : Int)) = false := beq_eq_false_iff_ne.2 (by omega)
    simp only [Instr.sameNow, this, if_true]
    rw [findNowU_some key v n (pre ++ ⟨.int .u32 (key : Nat), v, n⟩ :: post) (i + 1) pre post rfl (fun x hx => h x (by simp [hx]))]
    simp [Nat.add_assoc, Nat.add_comm 1]
theorem check_u32 (w : World) {k : TypeId} (hk : P.underlying k = some (.int .u32)) (em : Bool) (key : Int) (n : Nat) : (Instr.checkKey em (n + 1) k (.int .u32 key)).run P w = .ok () w := by
  rw [Instr.checkKey]
  simp [run_underlying hk]
theorem run_insertU {w : World} {t k e : TypeId} {b clk : Nat} {es : List MapEntry} {key : Nat} (v : Value) (ht : P.underlying t = some (.map k e)) (hk : P.underlying k = some (.int .u32)) (h : MapIs w b es clk) (hne : ∀ x ∈ es, ∃ s : Nat, x.key = .int .u32 (s : Nat) ∧ key ≠ s) :
    ∃ w', (Instr.mapUpdate t (.map (some b)) (.int .u32 (key : Nat)) v).run P w = .ok () w' ∧ MapIs w' b (es ++ [⟨.int .u32 (key : Nat), v, clk⟩]) (clk + 1) ∧ Only (fun k => k = b) w w' ∧ w'.heap.size = w.heap.size := by
  unfold MapIs at h
  have hb := (Array.getElem?_eq_some_iff.1 h).1
  refine ⟨({ w with heap := w.heap.setIfInBounds b (.map (es ++ [(⟨.int .u32 (key : Nat), v, clk⟩ : MapEntry)]).toArray (clk + 1)) } : World), ?_, ?_, ?_, by simp⟩
  · have hf := findNowU_none key es 0 hne
    have hck : ∀ em, (Instr.checkKey em 10000 k (.int .u32 (key : Nat))).run P w = .ok () w := fun em => check_u32 w hk em key 9999
    have hfk := MapKept.run_findKey (P := P) (w := w) hk hf
    simp [Instr.mapUpdate, run_underlying ht, getObj, Sem.run, h, hck, hfk, Result.andThen, setObj]
  · unfold MapIs
    simp [hb]
  · refine ⟨rfl, rfl, rfl, by simp, fun k hk hn => ?_⟩
    show (w.heap.setIfInBounds b _)[k]? = _
    rw [Array.getElem?_setIfInBounds, if_neg (fun e => hn e.symm)]
theorem wp_insertU {w : World} {o : Oper} {a : Act} {K : Act → World → Prop} {Q : Exit → Act → World → Prop} (m x v : Operand) (t : TypeId) (hop : o.op = Op.mapUpdate t m x v)
    {k e : TypeId} {b clk : Nat} {es : List MapEntry} {key : Nat} {val : Value} (ht : P.underlying t = some (.map k e)) (hk : P.underlying k = some (.int .u32)) (hm : a.eval m = .map (some b)) (hx : a.eval x = .int .u32 (key : Nat)) (hv : a.eval v = val)
    (h : MapIs w b es clk) (hne : ∀ x ∈ es, ∃ s : Nat, x.key = .int .u32 (s : Nat) ∧ key ≠ s)
    (hK : ∀ w', MapIs w' b (es ++ [⟨.int .u32 (key : Nat), val, clk⟩]) (clk + 1) → Only (fun k => k = b) w w' → w'.heap.size = w.heap.size → K (a.put o.dst undef) w') : o.wp P a w K Q := by
  obtain ⟨w', hrun, r1, r2, r3⟩ := run_insertU val ht hk h hne
  unfold Oper.wp
  simp [execOp, hop, hm, hx, hv, hrun, Result.andThen]
  exact hK w' r1 r2 r3
theorem run_lookupU_no {w : World} {t k e : TypeId} {b clk : Nat} {es : List MapEntry} {key : Nat} {z : Value} (ht : P.underlying t = some (.map k e)) (hk : P.underlying k = some (.int .u32)) (hz : ∀ w, (zeroValue e).run P w = .ok z w) (h : MapIs w b es clk) (hne : ∀ x ∈ es, ∃ s : Nat, x.key = .int .u32 (s : Nat) ∧ key ≠ s) :
    (Instr.lookup t (.map (some b)) (.int .u32 (key : Nat)) false).run P w = .ok z w := by
  unfold MapIs at h
  have hf := findNowU_none key es 0 hne
  have hck : ∀ em, (Instr.checkKey em 10000 k (.int .u32 (key : Nat))).run P w = .ok () w := fun em => check_u32 w hk em key 9999
  have hfk := MapKept.run_findKey (P := P) (w := w) hk hf
  simp [Instr.lookup, run_underlying ht, getObj, Sem.run, h, hck, hfk, Result.andThen, hz]
theorem run_lookupU_is {w : World} {t k e : TypeId} {b clk : Nat} {pre post : List MapEntry} {key : Nat} {v : Value} {n : Nat} (ht : P.underlying t = some (.map k e)) (hk : P.underlying k = some (.int .u32)) (h : MapIs w b (pre ++ ⟨.int .u32 (key : Nat), v, n⟩ :: post) clk) (hne : ∀ x ∈ pre, ∃ s : Nat, x.key = .int .u32 (s : Nat) ∧ key ≠ s) :
    (Instr.lookup t (.map (some b)) (.int .u32 (key : Nat)) false).run P w = .ok v w := by
  unfold MapIs at h
  have hf := findNowU_some key v n _ 0 pre post rfl hne
  have hck : ∀ em, (Instr.checkKey em 10000 k (.int .u32 (key : Nat))).run P w = .ok () w := fun em => check_u32 w hk em key 9999
  have hfk := MapKept.run_findKey (P := P) (w := w) hk hf
  simp [Instr.lookup, run_underlying ht, getObj, Sem.run, h, hck, hfk, Result.andThen]
end
end Go.Proofs.Ytggcmnjllkncaaa
