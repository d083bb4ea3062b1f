/- Maps with keys that are texts, whose entries are known one by one: an insertion, a look-up, a step of a range. No program in sight. -/
import Derived.Test.YtggcmnjllkncaaaSl
import Derived.Test.YtggcmnjllkncaaaBytes
import Derived.Laws.IdiomRangeMap
import Derived.MapKept
namespace Go.Proofs.Ytggcmnjllkncaaa
set_option linter.unusedSimpArgs false
set_option linter.unusedVariables false
set_option maxRecDepth 100000
open Go.RowKit

/-- block b is a map of these entries; its next stamp is clk -/
def MapIs (w : World) (b : Nat) (es : List MapEntry) (clk : Nat) : Prop := w.heap[b]? = some (.map es.toArray clk)
theorem MapIs.lt {w : World} {b : Nat} {es : List MapEntry} {clk : Nat} (h : MapIs w b es clk) : b < w.heap.size := (Array.getElem?_eq_some_iff.1 h).1
theorem MapIs.keep {w w' : World} {b : Nat} {es : List MapEntry} {clk : Nat} (h : MapIs w b es clk) (hk : w'.heap[b]? = w.heap[b]?) : MapIs w' b es clk := hk.trans h
theorem MapIs.ext {w w' : World} {b : Nat} {es : List MapEntry} {clk : Nat} (h : MapIs w b es clk) (hB : Below w.heap.size w w') : MapIs w' b es clk := h.keep (hB.block b h.lt)

/-- block r is a range over map m, which has handed out the stamps seen -/
def IterIs (w : World) (r m clk : Nat) (seen : Array Nat) : Prop := w.heap[r]? = some (.mapIter (some m) clk seen clk)
theorem IterIs.lt {w : World} {r m clk : Nat} {seen : Array Nat} (h : IterIs w r m clk seen) : r < w.heap.size := (Array.getElem?_eq_some_iff.1 h).1
theorem IterIs.keep {w w' : World} {r m clk : Nat} {seen : Array Nat} (h : IterIs w r m clk seen) (hk : w'.heap[r]? = w.heap[r]?) : IterIs w' r m clk seen := hk.trans h
theorem IterIs.ext {w w' : World} {r m clk : Nat} {seen : Array Nat} (h : IterIs w r m clk seen) (hB : Below w.heap.size w w') : IterIs w' r m clk seen := h.keep (hB.block r h.lt)
theorem IterIs.iterSeen {w : World} {r m clk : Nat} {seen : Array Nat} (h : IterIs w r m clk seen) : w.iterSeen r = seen := by
  unfold World.iterSeen
  rw [show w.heap[r]? = _ from h]

section
variable {P : Program}
theorem run_range_is {w : World} {t k e : TypeId} {b clk : Nat} {es : List MapEntry} (ht : P.underlying t = some (.map k e)) (h : MapIs w b es clk) :
    (Instr.range t (.map (some b))).run P w = .ok (.pointer (some ⟨w.heap.size, 0, none⟩)) (w.alloc (.mapIter (some b) clk #[] clk)) := run_range_map w t k e b es.toArray clk ht h
theorem run_entry_is {w : World} {r b clk : Nat} {seen : Array Nat} {es : List MapEntry} {e : MapEntry} (hr : IterIs w r b clk (seen.push e.born)) (hb : MapIs w b es clk) (he : e ∈ es) (hn : (es.map (·.born)).Nodup) :
    (Instr.entry (.pointer (some ⟨r, 0, none⟩))).run P w = .ok (.tuple #[e.key, e.val]) w := by
  have hf : es.toArray.find? (·.born == e.born) = some e := by rw [← Array.find?_toList]; exact find_born e es hn he
  unfold IterIs at hr
  unfold MapIs at hb
  simp only [Instr.entry, getObj, Sem.run_bind, Sem.run, hr, hb, Result.andThen, Array.back?_push, bne_self_eq_false, Bool.false_eq_true, if_false, hf]
  rfl
theorem run_next_is {w : World} {r b clk : Nat} {seen : Array Nat} {es : List MapEntry} (hr : IterIs w r b clk seen) (hb : MapIs w b es clk) (hold : ∀ x ∈ es, x.born < clk) (ty : TypeId) :
    ((leftOf es.toArray seen).size = 0 ∧ (Instr.next (.pointer (some ⟨r, 0, none⟩)) false ty).run P w = .ok (.tuple #[.bool false]) w) ∨
    ∃ e ∈ (leftOf es.toArray seen).toList, ∃ w' : World, (Instr.next (.pointer (some ⟨r, 0, none⟩)) false ty).run P w = .ok (.tuple #[.bool true, e.key, e.val]) w' ∧ IterIs w' r b clk (seen.push e.born) ∧ Only (fun k => k = r) w w' ∧ w'.heap.size = w.heap.size := by
  have hold' : ∀ x ∈ es.toArray.toList, x.born < clk := fun x hx => hold x (by simpa using hx)
  unfold IterIs at hr
  unfold MapIs at hb
  simp only [Instr.next, getObj, Sem.run_bind, Sem.run, hr, hb, Result.andThen, next_test_false seen es.toArray clk clk hold' (Nat.le_refl _), Bool.false_eq_true, if_false]
  unfold leftOf
  have hmem : ∀ x ∈ (Array.filter (fun e => !seen.contains e.born) es.toArray).toList, x.born < clk := fun x hx => hold x (by simp at hx; exact hx.1)
  generalize Array.filter (fun e => !seen.contains e.born) es.toArray = L at hmem ⊢
  have e1 : L.filter (fun x => decide (x.born < clk)) = L := Array.filter_eq_self.2 (fun x hx => by simpa using hmem x (by simpa using hx))
  have e2 : L.filter (fun x => decide (x.born ≥ clk)) = #[] := by
    rw [Array.filter_eq_empty_iff]
    intro x hx
    have := hmem x (by simpa using hx)
    simp
    omega
  simp only [e1, e2, Array.append_empty]
  by_cases h0 : L.size = 0
  · left
    have : L = #[] := Array.eq_empty_of_size_eq_zero h0
    subst this
    refine ⟨rfl, ?_⟩
    simp [choose, Sem.run, Question.forced]
  · right
    have hne : L.isEmpty = false := by simp [Array.isEmpty, h0]
    simp only [hne, Bool.false_eq_true, if_false, Array.empty_append, Array.size_map]
    have hch : ∃ (j : Nat) (w1 : World), j < L.size ∧ (w1 = w ∨ w1 = w.drew) ∧ (choose (Question.mapNext L.size)).run P w = .ok j w1 := by
      by_cases hf : L.size ≤ 1
      · exact ⟨0, w, by omega, .inl rfl, by simp [choose, Sem.run, Question.forced, hf]⟩
      · exact ⟨_, w.drew, Nat.mod_lt _ (by omega), .inr rfl, by
          simp only [choose, Sem.run, Question.forced, decide_eq_true_eq, hf, if_false, Question.cut]
          rfl⟩
    obtain ⟨j, w1, hj, hal, hrun⟩ := hch
    have hh : w1.heap = w.heap := by rcases hal with h | h <;> rw [h] <;> rfl
    have hr1 : w1.heap[r]? = some (.mapIter (some b) clk seen clk) := by rw [hh]; exact hr
    have hrl : r < w.heap.size := (Array.getElem?_eq_some_iff.1 hr).1
    refine ⟨L[j], by simp, { w1 with heap := w1.heap.setIfInBounds r (.mapIter (some b) clk (seen.push L[j].born) clk) }, ?_, ?_, ?_, ?_⟩
    · have hset : (setObj r (.mapIter (some b) clk (seen.push L[j].born) clk)).run P w1 = .ok () { w1 with heap := w1.heap.setIfInBounds r (.mapIter (some b) clk (seen.push L[j].born) clk) } := by
        simp only [setObj, Sem.run, hr1]
      simp only [hrun, Array.getElem?_map, Array.getElem?_eq_getElem hj, Option.map_some, Sem.run_bind, hset, Result.andThen]
      rfl
    · unfold IterIs
      simp [hh, hrl]
    · refine ⟨?_, ?_, ?_, by simp [hh], fun k hk hn => ?_⟩
      · rcases hal with h | h <;> rw [h] <;> rfl
      · rcases hal with h | h <;> rw [h] <;> rfl
      · rcases hal with h | h <;> rw [h] <;> rfl
      · show (w1.heap.setIfInBounds r _)[k]? = _
        rw [Array.getElem?_setIfInBounds, if_neg (fun e => hn e.symm), hh]
    · simp [hh]
theorem ba_false {a b : ByteArray} (h : a ≠ b) : (a == b) = false := by
  cases hb : a == b with
  | false => rfl
  | true => exact absurd ((MapKept.bytes_beq a b).1 hb) h
theorem ba_true (a : ByteArray) : (a == a) = true := (MapKept.bytes_beq a a).2 rfl
theorem check_str (w : World) {k : TypeId} (hk : P.underlying k = some .string) (em : Bool) (key : ByteArray) (n : Nat) : (Instr.checkKey em (n + 1) k (.string key)).run P w = .ok () w := by
  rw [Instr.checkKey]
  simp [run_underlying hk]
theorem findNow_none (key : ByteArray) : ∀ (es : List MapEntry) (i : Nat), (∀ x ∈ es, ∃ s : ByteArray, x.key = .string s ∧ key ≠ s) → Instr.findNow .string (.string key) es i = some none
  | [], _, _ => rfl
  | e :: es, i, h => by
    obtain ⟨s, hs, hne⟩ := h e (by simp)
    unfold Instr.findNow
    rw [hs]
    have := ba_false hne
    simp only [Instr.sameNow, this]
    exact findNow_none key es (i + 1) (fun x hx => h x (by simp [hx]))
theorem findNow_some (key : ByteArray) (v : Value) (n : Nat) : ∀ (es : List MapEntry) (i : Nat) (pre post : List MapEntry), es = pre ++ ⟨.string key, v, n⟩ :: post → (∀ x ∈ pre, ∃ s : ByteArray, x.key = .string s ∧ key ≠ s) → Instr.findNow .string (.string key) es i = some (some (i + pre.length, v))
  | _, i, [], post, rfl, _ => by
    unfold Instr.findNow
    simp only [List.nil_append, Instr.sameNow, ba_true]
    rfl
  | _, i, e :: pre, post, rfl, h => by
    obtain ⟨s, hs, hne⟩ := h e (by simp)
    rw [List.cons_append]
    unfold Instr.findNow
    rw [hs]
    have := ba_false hne
    simp only [Instr.sameNow, this]
    rw [findNow_some key v n (pre ++ ⟨.string key, v, n⟩ :: post) (i + 1) pre post rfl (fun x hx => h x (by simp [hx]))]
    simp [Nat.add_assoc, Nat.add_comm 1]
theorem run_insert_is {w : World} {t k e : TypeId} {b clk : Nat} {es : List MapEntry} {key : ByteArray} (v : Value) (ht : P.underlying t = some (.map k e)) (hk : P.underlying k = some .string) (h : MapIs w b es clk) (hne : ∀ x ∈ es, ∃ s : ByteArray, x.key = .string s ∧ key ≠ s) :
    ∃ w', (Instr.mapUpdate t (.map (some b)) (.string key) v).run P w = .ok () w' ∧ MapIs w' b (es ++ [⟨.string key, v, clk⟩]) (clk + 1) ∧ Only (fun k => k = b) w w' ∧ w'.heap.size = w.heap.size := by
  unfold MapIs at h
  have hb := (Array.getElem?_eq_some_iff.1 h).1
  refine ⟨({ w with heap := w.heap.setIfInBounds b (.map (es ++ [(⟨.string key, v, clk⟩ : MapEntry)]).toArray (clk + 1)) } : World), ?_, ?_, ?_, by simp⟩
  · have hf := findNow_none key es 0 hne
    have hck : ∀ em, (Instr.checkKey em 10000 k (.string key)).run P w = .ok () w := fun em => check_str w hk em key 9999
    have hfk := MapKept.run_findKey (P := P) (w := w) hk hf
    simp [Instr.mapUpdate, run_underlying ht, getObj, Sem.run, h, hck, hfk, Result.andThen, setObj]
  · unfold MapIs
    simp [hb]
  · refine ⟨rfl, rfl, rfl, by simp, fun k hk hn => ?_⟩
    show (w.heap.setIfInBounds b _)[k]? = _
    rw [Array.getElem?_setIfInBounds, if_neg (fun e => hn e.symm)]
theorem wpList_insert_is {w : World} {ops : Array Oper} {rest : List Oper} {o : Oper} {a : Act} {Q : Exit → Act → World → Prop} (hg : o.guard = none) (m x v : Operand) (t : TypeId) (hop : o.op = Op.insert t m x v)
    {k e : TypeId} {b clk : Nat} {es : List MapEntry} {key : ByteArray} {val : Value} (ht : P.underlying t = some (.map k e)) (hk : P.underlying k = some .string) (hm : a.eval m = .map (some b)) (hx : a.eval x = .string key) (hv : a.eval v = val)
    (h : MapIs w b es clk) (hne : ∀ x ∈ es, ∃ s : ByteArray, x.key = .string s ∧ key ≠ s)
    (hK : ∀ w', MapIs w' b (es ++ [⟨.string key, val, clk⟩]) (clk + 1) → Only (fun k => k = b) w w' → w'.heap.size = w.heap.size → wpList P ops Q rest (a.put o.dst undef) w') : wpList P ops Q (o :: rest) a w := by
  refine wpList_plain hg fun K' hK' => ?_
  obtain ⟨w', hrun, r1, r2, r3⟩ := run_insert_is val ht hk h hne
  unfold Oper.wp
  simp [execOp, hop, hm, hx, hv, hrun, Result.andThen]
  exact hK' _ _ (hK w' r1 r2 r3)
/-- a look-up that finds nothing, one that finds something -/
theorem run_lookup_no {w : World} {t k e : TypeId} {b clk : Nat} {es : List MapEntry} {key : ByteArray} {z : Value} (ht : P.underlying t = some (.map k e)) (hk : P.underlying k = some .string) (hz : ∀ w, (zeroValue e).run P w = .ok z w) (h : MapIs w b es clk) (hne : ∀ x ∈ es, ∃ s : ByteArray, x.key = .string s ∧ key ≠ s) :
    (Instr.lookup t (.map (some b)) (.string key) false).run P w = .ok z w ∧ (Instr.lookup t (.map (some b)) (.string key) true).run P w = .ok (.tuple #[z, .bool false]) w := by
  unfold MapIs at h
  have hf := findNow_none key es 0 hne
  have hck : ∀ em, (Instr.checkKey em 10000 k (.string key)).run P w = .ok () w := fun em => check_str w hk em key 9999
  have hfk := MapKept.run_findKey (P := P) (w := w) hk hf
  constructor <;> simp [Instr.lookup, run_underlying ht, getObj, Sem.run, h, hck, hfk, Result.andThen, hz]
theorem run_lookup_is {w : World} {t k e : TypeId} {b clk : Nat} {pre post : List MapEntry} {key : ByteArray} {v : Value} {n : Nat} (ht : P.underlying t = some (.map k e)) (hk : P.underlying k = some .string) (h : MapIs w b (pre ++ ⟨.string key, v, n⟩ :: post) clk) (hne : ∀ x ∈ pre, ∃ s : ByteArray, x.key = .string s ∧ key ≠ s) :
    (Instr.lookup t (.map (some b)) (.string key) false).run P w = .ok v w ∧ (Instr.lookup t (.map (some b)) (.string key) true).run P w = .ok (.tuple #[v, .bool true]) w := by
  unfold MapIs at h
  have hf := findNow_some key v n _ 0 pre post rfl hne
  have hck : ∀ em, (Instr.checkKey em 10000 k (.string key)).run P w = .ok () w := fun em => check_str w hk em key 9999
  have hfk := MapKept.run_findKey (P := P) (w := w) hk hf
  constructor <;> simp [Instr.lookup, run_underlying ht, getObj, Sem.run, h, hck, hfk, Result.andThen]
end
end Go.Proofs.Ytggcmnjllkncaaa
